/-
  What functions of the program compute, stated as contracts over plain data; the conditions of each stand in its own statement.
-/
import Derived.Test.YtboimfkommpglaaGreatDoorZB11
set_option linter.unusedSimpArgs false
set_option linter.unusedVariables false
namespace Go.Tr
open Go
def wz(P:Program)(f:FuncId)(args:List TV)(xs:List It)(ri:List (Nat×It))(r:TV)(xs':List It)(ro:List (Nat×It)):Prop:=
 ∀(E:En) (us:List Value),pX E (tJ xs ri)→b_ E args us→Calls P f us.toArray E.w fun e w'=>∃u E',e = .returned u∧E'.w=w'∧Post E xs' ro r u E'
def aat:List (Nat×Nat)→Nat→Option Nat
 | [],_=>none
 | (j,k)::l,id=>if id=k then some j else aat l id
def Bj:List (Nat×Nat)→Nat→Option Nat
 | [],_=>none
 | (j,k)::l,id=>if id=j then some k else Bj l id
theorem Uz{j k:Nat}:∀{rs:List (Nat×Nat)},Bj rs j=some k→(j,k)∈rs
 | [],h=>by trivial
 | (a,b)::l,h=>by
   simp only[Bj]at h;split at h
   ·simp_all
   ·exact dM _ (Uz h)
theorem QM{j k:Nat}:∀{rs:List (Nat×Nat)},(rs.map (·.1)).Nodup→(j,k)∈rs→Bj rs j=some k
 | [],_,h=>by trivial
 | (a,b)::l,hn,h=>by
   simp only[aH,dG]at hn;simp only[Bj];rcases aG.1 h with h|h
   ·simp_all
   ·have:j≠a:=by grind
    rw[if_neg this];exact QM hn.2 h
theorem M_{j k:Nat}:∀{rs:List (Nat×Nat)},aat rs k=some j→(j,k)∈rs
 | [],h=>by trivial
 | (a,b)::l,h=>by
   simp only[aat]at h;split at h
   ·simp_all
   ·exact dM _ (M_ h)
theorem Yy{j j' k:Nat}:∀{rs:List (Nat×Nat)},(rs.map (·.2)).Nodup→(j,k)∈rs→(j',k)∈rs→j=j'
 | [],_,h,_=>by trivial
 | (a,b)::l,hn,h,g=>by
   simp only[aH,dG]at hn;rcases aG.1 h with h|h<;>rcases aG.1 g with g|g
   ·simp_all
   ·simp_all
   ·simp_all
   ·exact Yy hn.2 h g
mutual
def TV.Ai(ν:List Pl)(rs:List (Nat×Nat)):TV→Option TV
 | .junk=>some .junk
 | .d x=>some (.d x)
 | .c v=>some (.c v)
 | .agg vs=>match TV.tX ν rs vs with|some vs=>some (.agg vs)|none=>none
 | .sZ _=>none
 | .bK id n=>match aat rs id with|some j=>some (.bK j n)|none=>none
 | .ptr p q=>match ZC p ν 0 with|some i=>some (.ptr (.x i) q)|none=>none
 | .ep e q=>some (.ep e q)
 | .tV _ _ _ _=>none
 | .mref _=>none
 | .sx _=>none
 | .Qg _ _ _=>none
 | .clo f vs=>match TV.tX ν rs vs with|some vs=>some (.clo f vs)|none=>none
def TV.tX(ν:List Pl)(rs:List (Nat×Nat)):List TV→Option (List TV)
 | []=>some []
 | v::vs=>match TV.Ai ν rs v,TV.tX ν rs vs with
   | some v,some vs=>some (v::vs)
   | _,_=>none
end
section
variable {P:Program} {A:jL}
def En.oJ(E:En)(ν:List Pl)(rs:List (Nat×Nat)):En:=
 {w:=E.w,St:=E.St,blk:=fun p=>match p with|.x i=>(ν[i]?).bind E.blk|_=>none,val:=fun j=>(Bj rs j).bind E.val}
theorem N7(E:En)(ν:List Pl)(rs:List (Nat×Nat)):P6 E (E.oJ ν rs):=⟨fun _ _ h=>h,fun _ _ _=>rfl⟩
mutual
theorem WG{ν:List Pl}{rs:List (Nat×Nat)}{E:En}(hn:(rs.map (·.1)).Nodup):∀{v v':TV} {u:Value},v.Ai ν rs=some v'→aV E v u→aV (E.oJ ν rs) v' u
 | .junk,v',u,h,_=>by grind[TV.Ai,aV]
 | .d x,v',u,h,hr=>by grind[TV.Ai,aV,Rep.ext,N7]
 | .c v,v',u,h,hr=>by grind[TV.Ai,aV]
 | .agg vs,v',u,h,hr=>by
   simp only[TV.Ai]at h;split at h
   ·rename_i vs' hv;simp only[aj]at h;subst h;obtain⟨us,hu,hs⟩:=hr;exact⟨us,hu,FQ hn hv hs⟩
   trivial
 | .sZ vs,v',u,h,_=>by trivial
 | .bK id n,v',u,h,hr=>by
   simp only[TV.Ai]at h;split at h
   ·rename_i j hj;simp only[aj]at h;subst h;obtain⟨h1,k,c,v,h2,h3⟩:=hr;exact⟨h1,k,c,v,by simp only[En.oJ,QM hn (M_ hj),dH];omega,h3⟩
   trivial
 | .ptr p q,v',u,h,hr=>by
   simp only[TV.Ai]at h;split at h
   ·rename_i i hi;simp only[aj]at h;subst h;simp only[aV]at hr⊢;obtain⟨_,h2⟩:=IQ hi
    grind[En.oJ]
   trivial
 | .ep e q,v',u,h,hr=>by grind[TV.Ai,aV,gq.ext,N7]
 | .tV _ _ _ _,v',u,h,_=>by trivial
 | .mref _,v',u,h,_=>by trivial
 | .sx _,v',u,h,_=>by trivial
 | .Qg _ _ _,v',u,h,_=>by trivial
 | .clo f vs,v',u,h,hr=>by
   simp only[TV.Ai]at h;split at h
   ·rename_i vs' hv;simp only[aj]at h;subst h;obtain⟨us,hu,hs⟩:=hr;exact⟨us,hu,FQ hn hv hs⟩
   trivial
theorem FQ{ν:List Pl}{rs:List (Nat×Nat)}{E:En}(hn:(rs.map (·.1)).Nodup):∀{vs vs':List TV} {us:List Value},TV.tX ν rs vs=some vs'→b_ E vs us→b_ (E.oJ ν rs) vs' us
 | [],vs',us,h,hr=>by grind[TV.tX,b_]
 | v::vs,vs',us,h,hr=>by
   simp only[TV.tX]at h;split at h
   ·rename_i v1 vs1 h1 h2;simp only[aj]at h;subst h;simp only[b_]at hr⊢;obtain⟨u,us',hu,g1,g2⟩:=hr;exact⟨u,us',hu,WG hn h1 g1,FQ hn h2 g2⟩
   trivial
end
def Yf(ν:List Pl)(rs:List (Nat×Nat)):It→Option It
 | .box cs=>match TV.tX ν rs cs with|some cs=>some (.box cs)|none=>none
 | _=>none
def xK(t:S)(ν:List Pl)(rs:List (Nat×Nat)):List Pl→Option (List It)
 | []=>some []
 | p::l=>match Yf ν rs (t p),xK t ν rs l with
   | some i,some is=>some (i::is)
   | _,_=>none
theorem FU{t:S}{ν:List Pl}{rs:List (Nat×Nat)}:∀{l:List Pl} {xs:List It},xK t ν rs l=some xs→xs.length=l.length∧∀(i:Nat) (p:Pl),l[i]? = some p→∃cs cs',t p = .box cs∧TV.tX ν rs cs=some cs'∧xs[i]? = some (.box cs')
 | [],xs,h=>by grind[xK]
 | p::l,xs,h=>by
   simp only[xK]at h;split at h
   ·rename_i it is h1 h2;simp only[aj]at h;subst h;obtain⟨h3,h4⟩:=FU h2;refine⟨by simp[*],fun i q hq=>?_⟩;cases i with
    | zero=>
      simp at hq;unfold Yf at h1
      grind
    | succ i=>simp_all
   trivial
theorem Ud{t t':S}{ν:List Pl}{rs:List (Nat×Nat)}:∀{l:List Pl},(∀p∈l,t' p=t p)→xK t' ν rs l=xK t ν rs l
 | [],_=>rfl
 | p::l,h=>by simp only[xK];rw[h p (by simp),Ud fun q hq=>h q (by simp[*])]
theorem J6{ν:List Pl}{rs:List (Nat×Nat)}:∀{vs vs':List TV},TV.tX ν rs vs=some vs'→vs'.length=vs.length
 | [],vs',h=>by grind[TV.tX]
 | v::vs,vs',h=>by
   simp only[TV.tX]at h;split at h
   ·rename_i h1 h2;simp only[aj]at h;subst h;simp[J6 h2]
   trivial
theorem J5{ν:List Pl}{rs:List (Nat×Nat)}{E:En}(hn:(rs.map (·.1)).Nodup){us:List Value}:∀{o:Nat} {vs vs':List TV},TV.tX ν rs vs=some vs'→eP E us o vs→eP (E.oJ ν rs) us o vs'
 | o,[],vs',h,_=>by simp only[TV.tX,aj]at h;subst h;trivial
 | o,v::vs,vs',h,⟨⟨u,h1,h2,h3⟩,hr⟩=>by
   simp only[TV.tX]at h;split at h
   ·rename_i v1 vs1 g1 g2;simp only[aj]at h;subst h;exact⟨⟨u,h1,h2,WG hn g1 h3⟩,J5 hn g2 hr⟩
   trivial
def vk(ν:List Pl)(rs:List (Nat×Nat)):List (List TV)→Option (List (List TV))
 | []=>some []
 | e::es=>match TV.tX ν rs e,vk ν rs es with
   | some e,some es=>some (e::es)
   | _,_=>none
def aae(ν:List Pl)(rs:List (Nat×Nat)):It→Option It
 | .row e z es false=>match vk ν rs es with|some es=>some (.row e z es false)|none=>none
 | _=>none
theorem Ug{ν:List Pl}{rs:List (Nat×Nat)}{i i':It}(h:aae ν rs i=some i'):∃e z es es',i = .row e z es false∧vk ν rs es=some es'∧i' = .row e z es' false:=by
 unfold aae at h
 grind
theorem J_{ν:List Pl}{rs:List (Nat×Nat)}:∀{es es':List (List TV)},vk ν rs es=some es'→es'.length=es.length
 | [],_,h=>by grind[vk]
 | e::es,_,h=>by
   simp only[vk]at h;split at h
   ·rename_i h1 h2;simp only[aj]at h;subst h;simp[J_ h2]
   trivial
theorem PO{ν:List Pl}{rs:List (Nat×Nat)}{E:En}(hn:(rs.map (·.1)).Nodup){us:List Value}{k:Nat}:∀{o:Nat} {es es':List (List TV)},vk ν rs es=some es'→iJ E us k o es→iJ (E.oJ ν rs) us k o es'
 | _,[],_,h,_=>by simp only[vk,aj]at h;subst h;trivial
 | _,e::es,_,h,⟨h1,h2,hr⟩=>by
   simp only[vk]at h;split at h
   ·rename_i g1 g2;simp only[aj]at h;subst h;exact⟨by grind[J6],J5 hn g1 h2,PO hn g2 hr⟩
   trivial
def Ku(t:S)(ν:List Pl)(rs:List (Nat×Nat)):List (Nat×Nat)→Option (List (Nat×It))
 | []=>some []
 | (j,k)::l=>match aae ν rs (t (.o k)),Ku t ν rs l with
   | some i,some r=>some ((j,i)::r)
   | _,_=>none
theorem W_{t:S}{ν:List Pl}{rs:List (Nat×Nat)}{j:Nat}:∀{l:List (Nat×Nat)} {ri:List (Nat×It)},Ku t ν rs l=some ri→(Bj l j=none→zi ri j = .none)∧∀k,Bj l j=some k→aae ν rs (t (.o k))=some (zi ri j)
 | [],ri,h=>by simp only[Ku,aj]at h;subst h;exact⟨fun _=>rfl,fun k h=>by trivial⟩
 | (a,b)::l,ri,h=>by
   simp only[Ku]at h;split at h
   ·rename_i i r h1 h2;simp only[aj]at h;subst h;obtain⟨g1,g2⟩:=W_ (j:=j) h2;simp only[Bj,zi]
    grind
   trivial
theorem Uy{t:S}{ν:List Pl}{rs:List (Nat×Nat)}:∀{l:List (Nat×Nat)} {ri:List (Nat×It)},Ku t ν rs l=some ri→∀x∈l,∃e z es,t (.o x.2) = .row e z es false
 | [],_,_,x,hx=>by trivial
 | (a,b)::l,ri,h,x,hx=>by
   simp only[Ku]at h;split at h
   ·rename_i i r h1 h2;rcases aG.1 hx with rfl|hx
    ·grind[Ug]
    ·exact Uy h2 x hx
   trivial
theorem adH{t t':S}{ν:List Pl}{rs:List (Nat×Nat)}:∀{l:List (Nat×Nat)},(∀x∈l,t' (.o x.2)=t (.o x.2))→Ku t' ν rs l=Ku t ν rs l
 | [],_=>rfl
 | (a,b)::l,h=>by simp only[Ku];rw[h (a,b) (by simp),adH fun x hx=>h x (by simp[*])]
theorem zZ{E:En}{ν:List Pl}{rs:List (Nat×Nat)}{p:Pl}{b:Nat}(h:(E.oJ ν rs).own p=some b):
  (∃i q,p = .x i∧ν[i]? = some q∧E.blk q=some b∧E.own q=some b)∨(∃j k x,p = .o j∧(j,k)∈rs∧Bj rs j=some k∧E.val k=some x∧x.2.2.ownBlock=some b):=by
 cases p with
 | s k=>trivial
 | x i=>
   left;unfold En.own at h;split at h
   ·rename_i b2 hb;simp only[aj]at h;subst h;have hb:(ν[i]?).bind E.blk=some b2:=hb;cases hp:ν[i]? with
    | none=>simp_all
    | some p=>simp only[hp,dH]at hb;exact⟨i,p,rfl,hp,hb,by simp[En.own,hb]⟩
   trivial
 | o j=>
   right;simp only[En.own,En.oJ]at h;cases hk:Bj rs j with
   | none=>simp_all
   | some k=>
     simp only[hk,dH]at h;cases hv:E.val k with
     | none=>simp_all
     | some x=>simp only[hv,dH]at h;exact⟨j,k,x,rfl,Uz hk,hk,hv,h⟩
theorem pX.oJ{t:S}{a:Act}{E:En}(hi:iI A t a E){ν:List Pl}{rs:List (Nat×Nat)}{Aw:List It}(Px:ν.Nodup)(hI:xK t ν rs ν=some Aw)(Eo:∀p∈ν,vY p=true)
  (hr1:(rs.map (·.1)).Nodup) (hr2:(rs.map (·.2)).Nodup) {ri:List (Nat×It)} (hrs:Ku t ν rs rs=some ri):pX (E.oJ ν rs) (tJ Aw ri):=by
 obtain⟨hl0,hIs⟩:=FU hI;have hrow:∀{j k},(j,k)∈rs→∃e z es,t (.o k) = .row e z es false:=by grind[Uy]
 have V3:∀{k x b},E.val k=some x→x.2.2.ownBlock=some b→(∃j,(j,k)∈rs)→E.own (.o k)=some b:=fun {k x b} h1 h2 ⟨j,h3⟩=>by
  obtain⟨e,z,es,h4⟩:=hrow h3;have:=hi.h.item (.o k) (by simp);rw[h4]at this
  simp[En.own,this.1,h1,h2]
 refine⟨fun p hps=>?_,fun k=>rfl,fun p q b' h1 h2=>?_,fun p b' h1=>?_,fun b' o h=>hi.h.uP b' o h,fun b' o h p hp=>?_,fun y hy=>gq.ext (N7 E ν rs) _ _ _ (hi.h.gl y hy)⟩
 ·cases p with
  | s k=>simp_all
  | o j=>
    simp only[tJ];obtain⟨hl1,hl2⟩:=W_ (j:=j) hrs;cases hk:Bj rs j with
    | none=>rw[hl1 hk];exact fun id e=>by simp only[Pl.o.injEq]at e;subst e;exact⟨rfl,by grind[En.oJ]⟩
    | some k=>obtain⟨e,z,es,es',h4,h5,h6⟩:=Ug (hl2 k hk);have hit:=hi.h.item (.o k) (by simp);rw[h6];simp only[h4]at hit;obtain⟨g0,id,v,us,g1,g2,g3,g4⟩:=hit;simp only[Pl.o.injEq]at g1;subst g1;refine⟨rfl,j,v,us,rfl,by grind[En.oJ,J_],?_,PO hr1 h5 g4⟩;rw[J_ h5];trivial
  | x i=>
    cases hp:ν[i]? with
    | none=>
      have:Aw.length≤i:=by simp_all
      simp only[tJ,List.getD,dK this,jf];exact fun id h=>by trivial
    | some p=>
      obtain⟨cs,cs',h1,h2,h3⟩:=hIs i p hp;have hpm:=bU hp;simp only[tJ,List.getD,h3,bf];have ag8:∀k,p≠.s k:=by grind[vY]
      have hit:=hi.h.item p ag8;rw[h1]at hit
      obtain⟨_,b',ty,us,g1,g2,g3,g4⟩:=hit;refine⟨fun id h=>by trivial,b',ty,us,?_,g2,by rw[g3,J6 h2],J5 hr1 h2 g4⟩
      show(ν[i]?).bind E.blk=some b'
      simp[*]
 ·rcases zZ h1 with⟨i,p',rfl,k1,_,k2⟩|⟨j,k,x,rfl,m1,_,v1,o1⟩<;>rcases zZ h2 with⟨i',q',rfl,k3,_,k4⟩|⟨j',k',x',rfl,m2,_,v2,o2⟩
  ·have:=hi.h.inj p' q' b' k2 k4
   grind[List.getElem_inj]
  ·have:=hi.h.inj p' (.o k') b' k2 (V3 v2 o2 ⟨_,m2⟩)
   grind
  ·have:=hi.h.inj q' (.o k) b' k4 (V3 v1 o1 ⟨_,m1⟩)
   grind
  ·have:=hi.h.inj (.o k) (.o k') b' (V3 v1 o1 ⟨_,m1⟩) (V3 v2 o2 ⟨_,m2⟩)
   grind[Yy]
 ·rcases zZ h1 with⟨i,p',rfl,k1,_,k2⟩|⟨j,k,x,rfl,m1,_,v1,o1⟩
  ·exact hi.h.size p' b' k2
  ·exact hi.h.size _ b' (V3 v1 o1 ⟨_,m1⟩)
 ·rcases zZ hp with⟨i,p',rfl,k1,_,k2⟩|⟨j,k,x,rfl,m1,_,v1,o1⟩
  ·obtain⟨e,k,es,k3,_⟩:=hi.h.sep b' o h p' k2
   grind
  ·obtain⟨e,z,es,k3,_⟩:=hi.h.sep b' o h _ (V3 v1 o1 ⟨_,m1⟩)
   grind
theorem Fr.akk{E0 E E':En}(f:Fr E0 E)(os:E'.w.os=E.w.os)(tape:E'.w.tape=E.w.tape)(output:E'.w.output=E.w.output)(size:E.w.heap.size≤E'.w.heap.size)
  (old:∀b,b<E0.w.heap.size→(∀i,E0.blk (.x i)≠some b)→(∀j,E0.own (.o j)≠some b)→E'.w.heap[b]? = E.w.heap[b]?) (xb:∀i,E'.blk (.x i)=E.blk (.x i))
  (new:∀id b,E'.own (.o id)=some b→(∃j,E.own (.o j)=some b)∨E.w.heap.size≤b) (st:∀b o,E.St b o→E'.St b o)
  (AU:∀b o,E'.St b o→E.St b o∨(E0.w.heap.size≤b∨∃j,E0.own (.o j)=some b)):Fr E0 E':=
 ⟨os.trans f.os,tape.trans f.tape,output.trans f.output,aY f.size size,fun b h1 h2 h3=>(old b h1 h2 h3).trans (f.old b h1 h2 h3),fun i=>(xb i).trans (f.xb i),
  fun id b h=>(new id b h).elim (fun⟨j,h⟩=>f.new j b h) (fun h=>.inl (aY f.size h)),fun b o h=>st b o (f.st b o h),fun b o h=>(AU b o h).elim (f.AU b o) .inr⟩
def wr:List (Nat×Nat)→List (Pl×It)
 | []=>[]
 | (_,k)::l=>(.o k,.v .junk)::wr l
theorem acH{t:S}{k:Nat}:∀{rs:List (Nat×Nat)},k∈rs.map (·.2)→over t (wr rs) (.o k) = .v .junk
 | [],h=>by trivial
 | (a,b)::l,h=>by
   simp only[wr,over];by_cases e:k=b
   ·grind[upd]
   ·simp only[aH,aG,e,false_or]at h;rw[upd,if_neg (by simp[*])];exact acH h
theorem UR{t:S}{p:Pl}:∀{rs:List (Nat×Nat)},(∀k∈rs.map (·.2),p≠.o k)→over t (wr rs) p=t p
 | [],_=>rfl
 | (a,b)::l,h=>by simp only[wr,over,upd,if_neg (h b (by simp))];exact UR fun k hk=>h k (by simp[*])
theorem iI.aiO{t:S}{a:Act}{E:En}(hi:iI A t a E){ν:List Pl}{rs:List (Nat×Nat)}{Aw lg:List It}{ro:List (Nat×It)}{b:Nat}(Px:ν.Nodup)(Eo:∀p∈ν,vY p=true)(hI:xK t ν rs ν=some Aw)
  (hr1:(rs.map (·.1)).Nodup) (hr2:(rs.map (·.2)).Nodup) {ri:List (Nat×It)} (hrs:Ku t ν rs rs=some ri)
  (hl:lg.length=ν.length) (hbox:∀i∈lg,qM i=true) (SX:∀x∈ro,isObj x.2=true) (hfree:∀x∈ro,t (.o (b+x.1)) = .none)
  {r:TV} {u:Value} {E':En} (hp:Post (E.oJ ν rs) lg ro r u E') :
  ∃E2:En,E2.w=E'.w∧iI A (over t (wx ν b ν lg++(wo ν b ro++wr rs))) a E2∧aV E2 (r.back ν b) u:=by
 obtain⟨hl0,hIs⟩:=FU hI;have hrow:∀{k},k∈rs.map (·.2)→∃e z es,t (.o k) = .row e z es false:=fun h=>by
  obtain⟨x,hx,rfl⟩:=ay.1 h
  grind[Uy]
 have aki:∀{k},k∈rs.map (·.2)→E.blk (.o k)=none∧∃z c v,E.val k=some (z,c,v)∧E.own (.o k)=v.ownBlock:=fun {k} h=>by
  obtain⟨e,z,es,h4⟩:=hrow h;have hit:=hi.h.item (.o k) (by simp);rw[h4]at hit
  obtain⟨g0,id,v,us,g1,g2,_,_⟩:=hit
  grind[En.own]
 have Jc:∀{i:Nat} {p:Pl},ν[i]? = some p→∃cs,t p = .box cs:=fun h=>by grind
 have aeK:∀{p:Pl},p∈ν→∀k,p≠.s k:=fun hp k e=>by grind[vY]
 have abH:∀{k},k∈rs.map (·.2)→Pl.o k∉ν:=fun h hp=>by grind[List.getElem?_of_mem]
 let nw:Nat→Option Nat:=fun k=>if b≤k∧(k-b)∈ro.map (·.1)then some (k-b)else none
 have hnw:∀{k j},nw k=some j↔k=b+j∧j∈ro.map (·.1):=fun {k j}=>by grind
 have xZ:∀{k j},nw k=some j→t (.o k) = .none:=fun h=>by grind
 have G6:∀{k j},nw k=some j→E.blk (.o k)=none∧E.val k=none:=fun {k j} h=>by
  have:=hi.h.item (.o k) (by simp);rw[xZ h]at this
  exact this k rfl
 have hnr:∀{k j},nw k=some j→k∉rs.map (·.2):=fun h g=>by grind
 let E2:En:={w:=E'.w,St:=E'.St,blk:=fun p=>match p with|.o k=>(match nw k with|some j=>E'.blk (.o j)|none=>E.blk (.o k))|p=>E.blk p,
             val:=fun k=>match nw k with|some j=>E'.val j|none=>if k∈rs.map (·.2)then(E.val k).map (fun x=>(x.1,x.2.1+1,.slice none 0 0))else E.val k}
 have ql:∀{p:Pl},(∀k j,p = .o k→nw k≠some j)→E2.blk p=E.blk p:=fun {p} h=>by grind
 have uo:∀{k:Nat},(∀j,nw k≠some j)→k∉rs.map (·.2)→E2.val k=E.val k:=fun {k} h g=>by grind
 have V6:∀{k:Nat},k∈rs.map (·.2)→E2.val k=(E.val k).map (fun x=>(x.1,x.2.1+1,.slice none 0 0)):=fun {k} g=>by grind
 have um:∀{k j:Nat},nw k=some j→E2.blk (.o k)=E'.blk (.o j)∧E2.val k=E'.val j:=fun {k j} h=>by grind
 have nY:∀{p:Pl},(∀k j,p = .o k→nw k≠some j)→(∀k,p = .o k→k∉rs.map (·.2))→E2.own p=E.own p:=fun {p} h g=>En.qB (ql h) (fun id e=>uo (fun j=>h id j e) (g id e))
 have nX:∀{k j:Nat},nw k=some j→E2.own (.o k)=E'.own (.o j):=fun {k j} h=>by
  obtain⟨h1,h2⟩:=um h
  grind[En.own]
 have u_:∀{k},k∈rs.map (·.2)→E2.own (.o k)=none:=fun {k} h=>by
  obtain⟨g1,z,c,v,g2,_⟩:=aki h;have hb:E2.blk (.o k)=none:=by
   rw[ql (p:=.o k)]
   ·exact g1
   ·intro k' j e hn;simp only[Pl.o.injEq]at e;subst e;exact hnr hn h
  simp only[En.own,hb,V6 h,g2,dF,dH,Value.ownBlock]
 have hcx:∀i,(E.oJ ν rs).blk (.x i)=(ν[i]?).bind E.blk:=fun i=>rfl
 have hown2:∀{j b'},(E.oJ ν rs).own (.o j)=some b'→∃k,k∈rs.map (·.2)∧E.own (.o k)=some b':=fun {j b'} h=>by
  rcases zZ h with⟨i,q,e,_⟩|⟨j',k,x,e,m,_,v,o⟩
  ·trivial
  ·have hk:k∈rs.map (·.2):=ay.2 ⟨_,m,rfl⟩
   grind
 have xO:∀{i b'},(E.oJ ν rs).blk (.x i)=some b'→∃p,ν[i]? = some p∧E.blk p=some b'∧E.own p=some b':=fun {i b'} h=>by
  rw[hcx]at h
  cases hp:ν[i]? with
  | none=>simp[hp]at h
  | some p=>simp only[hp,dH]at h;exact⟨p,rfl,h,by simp[En.own,h]⟩
 have Tc:∀{b' o},E.St b' o→E'.w.heap[b']? = E.w.heap[b']? :=fun {b' o} h=>hp.fr.old b' (hi.h.uP _ _ h) (fun i hx=>by
  obtain⟨p,h1,h2,h3⟩:=xO hx;obtain⟨cs,h4⟩:=Jc h1;obtain⟨e,k,es,h5,_⟩:=hi.h.sep _ _ h p h3;rw[h4]at h5;simp at h5) (fun j hj=>by
  obtain⟨k,h1,h2⟩:=hown2 hj;obtain⟨e,z,es,h5,_⟩:=hi.h.sep _ _ h _ h2;obtain⟨e',z',es',h6⟩:=hrow h1;rw[h6]at h5;simp at h5)
 have x:uG E E2:=by
  refine⟨fun b' o h=>hp.fr.st b' o h,fun b' o h=>jV (Tc h),fun id b' _ h=>?_,fun i b' h=>h,fun i b' h=>h,fun id k c v _ h=>?_⟩
  ·rw[ql]
   ·exact h
   ·rintro k j e hn;simp only[Pl.o.injEq]at e;subst e;rw[(G6 hn).1]at h;simp at h
  ·by_cases hr:id∈rs.map (·.2)
   ·exact⟨c+1,.slice none 0 0,by rw[V6 hr,h];rfl,by omega,fun e=>by omega⟩
   ·refine⟨c,v,?_,aI _,fun _=>rfl⟩;rw[uo _ hr]
    ·exact h
    ·intro j hn;rw[(G6 hn).2]at h;simp at h
 have hmem:∀{j:Nat},(E'.blk (.o j)≠none∨E'.val j≠none)→j∈ro.map (·.1):=fun {j} h=>by
  by_cases hj:j∈ro.map (·.1)
  ·omega
  ·have:=hp.h.item (.o j) (by simp);simp only[tJ,IY hj]at this;obtain⟨h1,h2⟩:=this j rfl;rcases h with h|h
   ·exact absurd h1 h
   ·exact absurd h2 h
 have hback:∀{v:TV} {u:Value},aV E' v u→aV E2 (v.back ν b) u:=fun {v u} h=>by
  refine KQ (E':=E') (E2:=E2) ⟨fun _ _ h=>h,fun _ _ _=>rfl⟩ (fun i b' hb=>?_) (fun id b' hb=>?_) (fun id y hy=>?_) hp.h.frees h
  ·rw[hp.fr.xb]at hb
   obtain⟨p,h1,h2,h3⟩:=xO hb;have hg:ν.getD i (.s 0)=p:=by simp[*]
   rw[hg,ql]
   ·omega
   ·rintro k j rfl hn;rw[(G6 hn).1]at h2;trivial
  ·have hj:=hmem (j:=id) (.inl (by simp[*]));rw[(um (hnw.2 ⟨rfl,hj⟩)).1];omega
  ·have hj:=hmem (j:=id) (.inr (by simp[*]));rw[(um (hnw.2 ⟨rfl,hj⟩)).2];omega
 have abD:∀{p:Pl},(∀k j,p = .o k→nw k≠some j)→∀j∈ro.map (·.1),p≠.o (b+j):=fun h j hj e=>h _ j e (hnw.2 ⟨rfl,hj⟩)
 have Cc:∀{p:Pl},p∈ν→∀k j,p = .o k→nw k≠some j:=fun {p} qA k j e hn=>by subst e;obtain⟨i,hi'⟩:=bM qA;obtain⟨cs,h⟩:=Jc hi';rw[xZ hn]at h;simp at h
 have AQ:∀p,over t (wx ν b ν lg++(wo ν b ro++wr rs)) p=if p∈ν then over t (wx ν b ν lg) p else over (over t (wr rs)) (wo ν b ro) p:=fun p=>by
  rw[yc,yc];split
  ·rename_i h;obtain⟨i,h1⟩:=bM h;have hil:i<lg.length:=by rw[hl];exact(aA.1 h1).1
   rw[DW Px hl h1 (ah hil),DW Px hl h1 (ah hil)]
  ·rename_i h;rw[ND h]
 have hold:∀{p:Pl},p∉ν→(∀k j,p = .o k→nw k≠some j)→(∀k,p = .o k→k∉rs.map (·.2))→over t (wx ν b ν lg++(wo ν b ro++wr rs)) p=t p:=fun h1 h2 h3=>by rw[AQ,if_neg h1,E_ (abD h2),UR (fun k hk e=>h3 k e hk)]
 have ag1:∀{k},k∈rs.map (·.2)→over t (wx ν b ν lg++(wo ν b ro++wr rs)) (.o k) = .v .junk:=fun {k} h=>by rw[AQ,if_neg (abH h),E_ (abD (p:=.o k) (fun k' j e hn=>by simp only[Pl.o.injEq]at e;subst e;exact hnr hn h)),acH h]
 have hH:pX E2 (over t (wx ν b ν lg++(wo ν b ro++wr rs))):=by
  refine⟨fun p hps=>?_,fun k=>hi.h.frees k,fun p q b' h1 h2=>?_,fun p b' h1=>?_,fun b' o h1=>hp.h.uP b' o h1,fun b' o h1 p h2=>?_,fun y hy=>gq.ext x.r _ _ _ (hi.h.gl y hy)⟩
  ·by_cases qA:p∈ν
   ·obtain⟨i,h1⟩:=bM qA;have hil:i<lg.length:=by rw[hl];exact(aA.1 h1).1
    rw[AQ,if_pos qA,DW Px hl h1 (ah hil)];have hb:=hbox lg[i] (aB hil);have hit:=hp.h.item (.x i) (by simp);have hr:tJ lg ro (.x i)=lg[i]:=by simp[tJ,List.getD,hil]
    rw[hr]at hit
    cases hc:lg[i]with
    | box cs=>
      rw[hc]at hit
      obtain⟨_,b',ty,us,h2,h3,h4,h5⟩:=hit;rw[hp.fr.xb]at h2
      obtain⟨p',g1,g2,g3⟩:=xO h2;rw[h1]at g1;simp only[aj]at g1;subst g1
      refine⟨fun id e=>?_,b',ty,us,?_,h3,by rw[h4,uf],yG hback h5⟩
      ·subst e;rw[uo (fun j=>Cc qA id j rfl) (fun h=>abH h qA)];obtain⟨cs0,g4⟩:=Jc h1;have:=hi.h.item (.o id) (by simp);rw[g4]at this
       exact this.1 id rfl
      ·rw[ql (Cc qA)];exact g2
    | none=>rw[hc]at hb;simp[qM]at hb
    | v _=>rw[hc]at hb;simp[qM]at hb
    | row _ _ _ _=>rw[hc]at hb;simp[qM]at hb
    | yj _ _ _=>rw[hc]at hb;simp[qM]at hb
    | mp _=>rw[hc]at hb;simp[qM]at hb
    | jA _ _ _ _=>rw[hc]at hb;simp[qM]at hb
    | Fb _ _ _ _=>rw[hc]at hb;simp[qM]at hb
    | Mc _ _=>rw[hc]at hb;simp[qM]at hb
   ·by_cases hn:∃k j,p = .o k∧nw k=some j
    ·obtain⟨k,j,rfl,hn⟩:=hn;obtain⟨rfl,hj⟩:=hnw.1 hn;rw[AQ,if_neg qA,Kw hj];have ho:=OG SX hj;have hit:=hp.h.item (.o j) (by simp);simp only[tJ]at hit;obtain⟨hb1,hv1⟩:=um hn;cases hc:zi ro j with
     | box cs=>
       rw[hc]at hit
       obtain⟨h0,b',ty,us,h2,h3,h4,h5⟩:=hit;exact⟨fun id e=>by simp only[Pl.o.injEq]at e;subst e;rw[hv1];exact h0 j rfl,b',ty,us,hb1.trans h2,h3,by rw[h4,uf],yG hback h5⟩
     | row e k' es sh=>
       rw[hc]at hit
       obtain⟨h0,id,v,us,e1,h2,h3,h4⟩:=hit;simp only[Pl.o.injEq]at e1;subst e1;exact⟨hb1.trans h0,b+j,v,us,rfl,by rw[hv1,aN];exact h2,by rw[aN];exact h3,Ql hback h4⟩
     | mp es=>
       rw[hc]at hit
       obtain⟨h0,b',l,clock,h2,h3,h4,h5⟩:=hit;exact⟨fun id e=>by simp only[Pl.o.injEq]at e;subst e;rw[hv1];exact h0 j rfl,b',l,clock,hb1.trans h2,h3,uV.ext (E:=E') (E':=E2) ⟨fun _ _ h=>h,fun _ _ _=>rfl⟩ h4,h5⟩
     | jA es c pd s=>
       rw[hc]at hit
       obtain⟨id,b',l,clock,l',ty,v,e1,h2,h3,h4,h5,h6,h7,h8,h9⟩:=hit;simp only[Pl.o.injEq]at e1;subst e1;exact⟨b+j,b',l,clock,l',ty,v,rfl,hb1.trans h2,h3,h4,acL hback h5,h6,by rw[hv1];exact h7,h8,h9⟩
     | Fb _ _ _ _=>rw[hc]at ho;simp[isObj]at ho
     | Mc _ _=>rw[hc]at ho;simp[isObj]at ho
     | yj _ _ _=>rw[hc]at ho;simp[isObj]at ho
     | none=>rw[hc]at ho;simp[isObj]at ho
     | v _=>rw[hc]at ho;simp[isObj]at ho
    ·have hn':∀k j,p = .o k→nw k≠some j:=fun k j e h=>hn ⟨k,j,e,h⟩
     by_cases hg:∃k,p = .o k∧k∈rs.map (·.2)
     ·obtain⟨k,rfl,hk⟩:=hg;rw[ag1 hk];exact u_ hk
     ·have hg':∀k,p = .o k→k∉rs.map (·.2):=fun k e h=>hg ⟨k,e,h⟩
      rw[hold qA hn' hg'];refine(hi.h.item p hps).up x (ql hn') (fun id e=>uo (fun j=>hn' id j e) (hg' id e)) (fun b' hb'=>?_);refine hp.fr.old b' (hi.h.size p b' hb') (fun i hx=>?_) (fun j hj=>?_)
      ·obtain⟨q,g1,g2,g3⟩:=xO hx;have:=hi.h.inj p q b' hb' g3;subst this;exact qA (bU g1)
      ·obtain⟨k,g1,g2⟩:=hown2 hj;exact hg' k (hi.h.inj p _ b' hb' g2) g1
  ·have hgo:∀{p b'},E2.own p=some b'→∀k,p = .o k→k∉rs.map (·.2):=fun {p b'} h k e g=>by
    subst e;rw[u_ g]at h;simp at h
   have SV:∀{j q},E'.own (.o j)=some b'→E.own q=some b'→(∀k,q = .o k→k∉rs.map (·.2))→False:=fun {j q} h1 h2 h3=>by
    have g2:=hi.h.size q b' h2;rcases hp.fr.new j b' h1 with g1|⟨i,g1⟩
    ·simp only[En.oJ]at g1;omega
    ·obtain⟨k,g3,g4⟩:=hown2 g1;exact h3 k (hi.h.inj q _ b' h2 g4) g3
   by_cases n1:∃k j,p = .o k∧nw k=some j<;>by_cases n2:∃k j,q = .o k∧nw k=some j
   ·obtain⟨k,j,rfl,hn⟩:=n1;obtain⟨k',j',rfl,hn'⟩:=n2;rw[nX hn]at h1;rw[nX hn']at h2
    have:=hp.h.inj _ _ b' h1 h2;simp only[Pl.o.injEq]at this;subst this;rw[(hnw.1 hn).1,(hnw.1 hn').1]
   ·obtain⟨k,j,rfl,hn⟩:=n1;have hq:=hgo h2;rw[nX hn]at h1
    rw[nY (fun k j e h=>n2 ⟨k,j,e,h⟩) hq]at h2
    exact(SV h1 h2 hq).elim
   ·obtain⟨k,j,rfl,hn⟩:=n2;have hq:=hgo h1;rw[nX hn]at h2
    rw[nY (fun k j e h=>n1 ⟨k,j,e,h⟩) hq]at h1
    exact(SV h2 h1 hq).elim
   ·have hq1:=hgo h1;have hq2:=hgo h2;rw[nY (fun k j e h=>n1 ⟨k,j,e,h⟩) hq1]at h1
    rw[nY (fun k j e h=>n2 ⟨k,j,e,h⟩) hq2]at h2
    exact hi.h.inj p q b' h1 h2
  ·by_cases n1:∃k j,p = .o k∧nw k=some j
   ·obtain⟨k,j,rfl,hn⟩:=n1;rw[nX hn]at h1
    exact hp.h.size _ b' h1
   ·by_cases hg:∃k,p = .o k∧k∈rs.map (·.2)
    ·obtain⟨k,rfl,hk⟩:=hg;rw[u_ hk]at h1;simp at h1
    ·rw[nY (fun k j e h=>n1 ⟨k,j,e,h⟩) (fun k e h=>hg ⟨k,e,h⟩)]at h1
     exact fC (hi.h.size p b' h1) hp.fr.size
  ·by_cases n1:∃k j,p = .o k∧nw k=some j
   ·obtain⟨k,j,rfl,hn⟩:=n1;rw[nX hn]at h2
    obtain⟨e,k',es,g1,g2⟩:=hp.h.sep b' o h1 _ h2;obtain⟨rfl,hj⟩:=hnw.1 hn;have qA:Pl.o (b+j)∉ν:=fun h=>Cc h _ j rfl hn
    refine⟨e,k',es.map (TV.backs ν b),?_,by simpa using g2⟩;rw[AQ,if_neg qA,Kw hj];simp only[tJ]at g1;rw[g1];rfl
   ·have n1':∀k j,p = .o k→nw k≠some j:=fun k j e h=>n1 ⟨k,j,e,h⟩
    by_cases hg:∃k,p = .o k∧k∈rs.map (·.2)
    ·obtain⟨k,rfl,hk⟩:=hg;rw[u_ hk]at h2;simp at h2
    ·have hg':∀k,p = .o k→k∉rs.map (·.2):=fun k e h=>hg ⟨k,e,h⟩
     rw[nY n1' hg']at h2
     have hsz:=hi.h.size p b' h2;rcases hp.fr.AU b' o h1 with g1|g1|⟨i,g1⟩
     ·obtain⟨e,k,es,g2,g3⟩:=hi.h.sep b' o g1 p h2;refine⟨e,k,es,?_,g3⟩;rw[hold _ n1' hg',g2];intro qA;obtain⟨i,hi'⟩:=bM qA;obtain⟨cs,h⟩:=Jc hi';rw[h]at g2;simp at g2
     ·simp only[En.oJ]at g1;omega
     ·obtain⟨k,g3,g4⟩:=hown2 g1;exact absurd g3 (hg' k (hi.h.inj p _ b' h2 g4))
 have hsl:∀k,over t (wx ν b ν lg++(wo ν b ro++wr rs)) (.s k)=t (.s k):=fun k=>hold (fun h=>aeK h k rfl) (fun _ _ e=>by simp at e) (fun _ e=>by simp at e)
 have hE0:∀{j b'},(E.oJ ν rs).own (.o j)=some b'→A.E0.w.heap.size≤b'∨∃i,A.E0.own (.o i)=some b':=fun {j b'} h=>by obtain⟨k,_,g⟩:=hown2 h;exact hi.fr.new k b' g
 refine⟨E2,rfl,hi.step hH x (hi.fr.akk hp.fr.os hp.fr.tape hp.fr.output hp.fr.size (fun b' h1 h2 h3=>?_) (fun i=>rfl) (fun id b' h=>?_) (fun b' o h=>hp.fr.st b' o h) (fun b' o h=>?_)) hsl,hback hp.rel⟩
 ·refine hp.fr.old b' (fC h1 hi.fr.size) (fun i hx=>?_) (fun j hj=>?_)
  ·obtain⟨q,g1,g2,g3⟩:=xO hx;cases q with
   | s k=>rw[hi.h.frees k]at g2;simp at g2
   | x j=>exact h2 j ((hi.fr.xb j).symm.trans g2)
   | o k=>exact(hi.fr.new k b' g3).elim (fun h=>by omega) (fun⟨j,h⟩=>h3 j h)
  ·exact(hE0 hj).elim (fun h=>by omega) (fun⟨j,h⟩=>h3 j h)
 ·cases hn:nw id with
  | some j=>
    rw[nX hn]at h
    rcases hp.fr.new j b' h with g|⟨i,g⟩
    ·exact .inr g
    ·obtain⟨k,_,g2⟩:=hown2 g;exact .inl ⟨k,g2⟩
  | none=>
    by_cases hk:id∈rs.map (·.2)
    ·rw[u_ hk]at h;simp at h
    ·rw[nY (fun k j e h=>by simp only[Pl.o.injEq]at e;subst e;rw[hn]at h;simp at h) (fun k e=>by simp only[Pl.o.injEq]at e;subst e;exact hk)]at h
     exact .inl ⟨id,h⟩
 ·rcases hp.fr.AU b' o h with g|g|⟨i,g⟩
  ·exact .inl g
  ·exact .inr (.inl (aY hi.fr.size g))
  ·exact .inr (hE0 g)
variable {ops:Array Oper}
theorem Sum.call2{t:S}{i:Nat}{o:Oper}{gp:List Pl}{fo:Operand}{xs:List Operand}{tys:Array TypeId}{f:FuncId}{caps mY:List TV}{Aw lg:List It}{ri:List (Nat×It)}{r:TV}{ro:List (Nat×It)}
  (ho:ops[i]? = some o) (hg:gv ops t o=some (gp,true)) (hd:qj A.N o=true) (hop:o.op = .call {callee:=.value fo,args:=xs.toArray,argTypes:=tys}) (hf:ev t fo = .clo f caps) (hfn:dP P f=true)
  (C:wz P f mY Aw ri r lg ro) (ν:List Pl) (rs:List (Nat×Nat)) (b:Nat) (Px:ν.Nodup) (Eo:∀p∈ν,vY p=true) (hp:TV.tX ν rs (xs.map (ev t)++caps)=some mY) (hI:xK t ν rs ν=some Aw)
  (hr1:(rs.map (·.1)).Nodup) (hr2:(rs.map (·.2)).Nodup) (XV:Ku t ν rs rs=some ri)
  (hl:lg.length=ν.length) (hbox:∀i∈lg,qM i=true) (SX:∀x∈ro,isObj x.2=true) (hfree:∀x∈ro,t (.o (b+x.1)) = .none) :
  Sum P A ops i t (gp++(pl fo++(xs.flatMap pl++(ν++((rs.map fun x=>.o x.2)++ro.map fun x=>.o (b+x.1))))))
   (wF o (r.back ν b) (wx ν b ν lg++(wo ν b ro++wr rs))):=fun t' hr a w ⟨E,hw,hi⟩ K Q hK=>by
 subst hw;have hwant:=oQ hg (dw hr) hi;have hr1':=bg hr;have hr2':=bg hr1';have hr3:=bg hr2';have hr4:=bg hr3;have hfo:ev t' fo = .clo f caps:=(fZ (dw hr1')).trans hf;have hxs:xs.map (ev t')=xs.map (ev t):=RY (dw hr2');have ahe:∀p∈ν,t' p=t p:=dw hr3
 have asx:∀x∈rs,t' (.o x.2)=t (.o x.2):=fun x hx=>(dw hr4) (.o x.2) (ay.2 ⟨x,hx,rfl⟩)
 have ag5:∀x∈ro,t' (.o (b+x.1)) = .none:=fun x hx=>((bg hr4) (.o (b+x.1)) (ay.2 ⟨x,hx,rfl⟩)).trans (hfree x hx)
 have hI':xK t' ν rs ν=some Aw:=(Ud ahe).trans hI;have ank:Ku t' ν rs rs=some ri:=(adH asx).trans XV;have hfr:=dS hi fo;rw[hfo]at hfr
 simp only[aV]at hfr;obtain⟨vF,Cb,wY⟩:=hfr;have hxr:=Dq hi xs;rw[hxs]at hxr
 have happ:∀{ts ts':List TV} {us us':List Value},b_ E ts us→b_ E ts' us'→b_ E (ts++ts') (us++us'):=by
  intro ts
  induction ts with
  | nil=>intro ts' us us' h g;simp only[b_]at h;subst h;simpa using g
  | cons v ts ih=>intro ts' us us' h g;simp only[b_]at h;obtain⟨u,us0,rfl,h1,h2⟩:=h;simp only[fF,b_];exact⟨u,us0++us',rfl,h1,ih h2 g⟩
 have hargs:=happ hxr wY;have JM:b_ (E.oJ ν rs) mY (xs.map a.eval++vF.toList):=FQ hr1 hp hargs;have hH0:pX (E.oJ ν rs) (tJ Aw ri):=pX.oJ hi Px hI' Eo hr1 hr2 ank;have hcall:=C (E.oJ ν rs) _ hH0 JM;have hwc:(E.oJ ν rs).w=E.w:=rfl;rw[hwc]at hcall
 unfold wpOp;simp only[ho,hwant,if_true];refine .inl ?_;unfold Oper.wp;have hrun:(execOp a.eval o).run P E.w = .ok (.enter f (xs.map a.eval++vF.toList).toArray) E.w:=by
  have harr:(List.map a.eval xs++vF.toList).toArray=(List.map a.eval xs).toArray++vF:=by simp
  simp only[execOp,hop,resolve,Cb,Deferred.ofValue,invoke,Sem.run_bind,Sem.run_pure,Result.andThen_ok,iy,iF,jH hfn,harr]
 rw[hrun];simp only[Oper.upon];refine hcall.mono fun e w' ⟨u,E',he,hw',hpost⟩=>?_
 subst he;obtain⟨E2,hw2,hi2,hr2'⟩:=hi.aiO Px Eo hI' hr1 hr2 ank hl hbox SX ag5 hpost;refine hK _ _ ⟨E2,hw2.trans hw',iI.dst ?_ hd hr2'⟩;exact hi2
def aa1(P:Program)(N:Nat)(t:S)(o:Oper)(f:FuncId)(mY:List TV)(Aw:List It)(ri:List (Nat×It))(r:TV)(lg:List It)(ro:List (Nat×It))(ν:List Pl)(rs:List (Nat×Nat))(b:Nat)(gp:List Pl)(g:Bool):Option (Prop×List Pl×List (Pl×It)):=
 match o.op with
 | .call {callee:=.value fo,args:=xs,argTypes:=_}=>
   match ev t fo with
   | .clo f' caps=>
     match xK t ν rs ν,TV.tX ν rs (xs.toList.map (ev t)++caps),Ku t ν rs rs with
     | some c0,some a0,some r0=>
       some (g=true∧qj N o=true∧f'=f∧dP P f=true∧ν.Nodup∧(∀p∈ν,vY p=true)∧a0=mY∧c0=Aw∧(rs.map (·.1)).Nodup∧(rs.map (·.2)).Nodup∧r0=ri∧
        lg.length=ν.length∧(∀x∈lg,qM x=true)∧(∀x∈ro,isObj x.2=true)∧(∀x∈ro,t (.o (b+x.1)) = .none),
        gp++(pl fo++(xs.toList.flatMap pl++(ν++((rs.map fun x=>.o x.2)++ro.map fun x=>.o (b+x.1))))),
        wF o (r.back ν b) (wx ν b ν lg++(wo ν b ro++wr rs)))
     | _,_,_=>none
   | _=>none
 | _=>none
def aaZ(P:Program)(N:Nat)(t:S)(ops:Array Oper)(f:FuncId)(mY:List TV)(Aw:List It)(ri:List (Nat×It))(r:TV)(lg:List It)(ro:List (Nat×It))(ν:List Pl)(rs:List (Nat×Nat))(b:Nat):Option Oper→Option (Prop×List Pl×List (Pl×It))
 | some o=>match gv ops t o with
   | some (gp,g)=>aa1 P N t o f mY Aw ri r lg ro ν rs b gp g
   | none=>none
 | none=>none
theorem aF.of2{i:Nat}{t:S}{k:List Pl→List (Pl×It)→Prop}{g:Tg k}{f:FuncId}{mY:List TV}{Aw lg:List It}{ri:List (Nat×It)}{r:TV}{ro:List (Nat×It)}(C:wz P f mY Aw ri r lg ro)(ν:List Pl)(rs:List (Nat×Nat))(b:Nat)
  (h:UW k g (aaZ P A.N t ops f mY Aw ri r lg ro ν rs b ops[i]?)):aF P A ops i t k g:=by
 unfold UW at h;split at h
 ·rename_i D rp W hc;obtain⟨h1,h2⟩:=h;refine⟨rp,W,?_,h2⟩;unfold aaZ at hc;split at hc
  ·rename_i o ho;split at hc
   ·rename_i gp g0 hg;unfold aa1 at hc;split at hc
    ·rename_i fo xs tys hop;split at hc
     ·rename_i f' caps hf;split at hc
      ·rename_i c0 a0 r0 hI hp XV;simp only[aj,aK]at hc;obtain⟨rfl,rfl,rfl⟩:=hc;obtain⟨rfl,q1,rfl,q2,q3,q4,rfl,rfl,q5,q6,rfl,q8,q9,q10,q11⟩:=h1;exact Sum.call2 (xs:=xs.toList) ho hg q1 (by simpa using hop) hf q2 C ν rs b q3 q4 hp hI q5 q6 XV q8 q9 q10 q11
      trivial
     trivial
    trivial
   trivial
  trivial
 trivial
theorem y5{f:FuncId}{fn:Func}{c:Code}{args:List TV}{xs:List It}{ri:List (Nat×It)}{r:TV}{xs':List It}{ro:List (Nat×It)}(hf:P.funcs[f]? = some fn)(hb:fn.body=some c)
  (h:∀E0,AW P ⟨E0,fn.ntmps⟩ c (fin P ⟨E0,fn.ntmps⟩ fn r xs' ro) (look (Vj args 0++(xL xs 0++oL ri)))):wz P f args xs ri r xs' ro:=fun E us hH hargs=>by
 refine calls_of_wp hf hb (Code.wp_mono (fun e a w hq=>?_) (h E {tmps:=us.toArray++Array.replicate (fn.ntmps-us.toArray.size) undef,defers:=[]} E.w ⟨E,rfl,⟨?_,?_,?_,rfl,?_⟩⟩))
 ·obtain⟨t,hi,hq⟩:=hq;have key:Fin P ⟨E,fn.ntmps⟩ fn r xs' ro t→a.defers = []∧∃v,(results fn a.tmps).run P w = .ok v w∧∃u E',Ending.returned v = .returned u∧E'.w=w∧Post E xs' ro r u E':=fun hF=>by
   obtain⟨u,E',h1,h2,h3⟩:=hF a w hi;obtain⟨E1,_,hi1⟩:=hi;exact⟨hi1.defers,u,h1,u,E',rfl,h2,h3⟩
  cases e<;>first
   | exact hq.elim
   | exact key hq
 ·refine hH.congr fun p hp=>?_
  rw[RV hp];cases p with
  | s k=>simp_all
  | x i=>
    rw[aj8];simp only[tJ,og,true_and,dR,pW]
    grind[TP]
  | o k=>rw[IB (fun j e=>by trivial),alo];rfl
 ·exact⟨rfl,rfl,rfl,aI _,fun _ _ _ _=>rfl,fun _=>rfl,fun id b hb=>.inr ⟨id,hb⟩,fun _ _ h=>h,fun _ _ h=>.inl h⟩
 ·intro k tv hk;rw[abm]at hk
  simp only[og,true_and,dR,pW]at hk;have hx:look (xL xs 0++oL ri) (.s k) = .none:=by rw[IB (fun j e=>by trivial),TP (fun j e=>by trivial)]
  split at hk
  ·have hak:args[k]? = some args[k]:=by simp
   rw[hak]at hk
   simp only[It.v.injEq]at hk;obtain⟨u,h1,h2⟩:=hargs.get hak
   grind
  simp_all
 grind
theorem TW(ν:List Pl)(rs:List (Nat×Nat)):∀l:List D,TV.tX ν rs (l.map .d)=some (l.map .d)
 | []=>rfl
 | x::l=>by simp[TV.tX,TV.Ai,TW ν rs l]
theorem WI(ν:List Pl)(rs:List (Nat×Nat)):∀l:List (List D),vk ν rs (dd l)=some (dd l)
 | []=>rfl
 | x::l=>by
   have:=WI ν rs l
   grind[dd,vk,TW]
theorem Ua(ν:List Pl)(rs:List (Nat×Nat)):∀a b:List (List TV),vk ν rs (a++b)=match vk ν rs a,vk ν rs b with
  | some x,some y=>some (x++y)
  | _,_=>none
 | [],b=>by cases h:vk ν rs b<;>simp[vk,h]
 | e::a,b=>by
   simp only[fF,vk,Ua ν rs a b]
   grind
theorem Uc(ν:List Pl)(rs:List (Nat×Nat))(cs:List TV):Yf ν rs (.box cs)=match TV.tX ν rs cs with|some cs=>some (.box cs)|none=>none:=rfl
attribute [simp] aaZ aa1 TV.Ai TV.tX xK Uc aat Bj Ku wr aae vk WI Ua
end
end Go.Tr
