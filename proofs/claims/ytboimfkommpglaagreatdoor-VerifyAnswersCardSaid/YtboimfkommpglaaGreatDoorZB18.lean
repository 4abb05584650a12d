/-
  What functions of the program compute, stated as contracts over plain data; the conditions of each stand in its own statement.
-/
import Derived.Test.YtboimfkommpglaaGreatDoorZB17
set_option linter.unusedVariables false
set_option linter.unusedSimpArgs false
set_option maxRecDepth 100000
set_option maxHeartbeats 2000000
namespace Go.Proofs
open Go Go.Tr
theorem MF:∀{l m:List Int},l.Nodup→(∀x∈l,x∈m)→l.length≤m.length
 | [],_,_,_=>by simp
 | x::l,m,h,hs=>by
   have h1:=dG.1 h;have:=MF (l:=l) (m:=m.erase x) h1.2 fun y hy=>(List.mem_erase_of_ne (fun e=>by simp_all)).2 (hs y (by simp[*]))
   grind
theorem nI{l:List Rt}{r:Int}:fM l r=true↔r∈l.map (·.id):=by simp[fM]
theorem zT{g:bV}{l:List Int}(h:l.Nodup)(hs:∀x∈l,fM g.rs x=true):l.length≤g.rs.length:=by
 have:=MF h fun x hx=>nI.1 (hs x hx)
 simp_all
theorem TK{g:bV}{r x:Int}(h:x∈near g r):fM g.rs x=true:=by
 simp only[near,ay,bG]at h
 grind[nI]
theorem EY{g:bV}{d:List Int}{r x:Int}(h:x∈steps g d r):fM g.rs x=true:=by grind[steps,TK]
def wM(g:bV)(s:List Int×List Int)(n:Int):List Int×List Int:=
 if mZ g.rs n=true then(s.1,nT s.2 n)else if pY s.1 n=true then s else(s.1++[n],s.2)
def Af(g:bV)(d:List Int):Nat→Nat→List Int×List Int→List Int×List Int
 | 0,_,s=>s
 | k+1,i,s=>if i<s.1.length then Af g d k (i+1) ((steps g d (s.1.getD i 0)).foldl (wM g) s)else s
def hops(g:bV)(f t:Int):List Int:=
 if jE g=0∧fM g.rs f=true∧fM g.rs t=true∧¬f=t then(Af g (dist g t) (g.rs.length+1) 0 ([f],[])).2 else []
theorem ZF(l:List Int)(n:Int):(nT l n).length≤l.length+1:=by grind[nT]
theorem Bc{g:bV}{p:List Int→Prop}(h:∀d l,l∈g.ls→p d→p (relax g d l)):∀(n:Nat) (d:List Int),p d→p (Dw g n d)
 | 0,_,hd=>hd
 | n+1,d,hd=>by
   have:∀(ls:List Lk) (d:List Int),(∀x∈ls,x∈g.ls)→p d→p (ls.foldl (relax g) d):=by
    intro ls
    induction ls with
    | nil=>simp
    | cons x ls ih=>simp_all
   exact Bc h n _ (this g.ls d (fun _ hx=>hx) hd)
theorem agr(g:bV)(t:Int):(dist g t).length=g.rs.length:=by refine Bc (p:=fun d=>d.length=g.rs.length) (fun d l _ h=>by rw[BA,h]) _ _ (by simp[Dp])
theorem acV{g:bV}(hg:g.Ok)(t:Int):Bd (dist g t):=by refine Bc (p:=Bd) (fun d l hl h=>h.relax (hg.c hl).1.1 (hg.c hl).2.1) _ _ ?_;intro v hv;obtain⟨x,_,rfl⟩:=ay.1 hv;split<;>simp
theorem ag6(g:bV)(hg:g.Sm)(f t:Int):Contract Tryz.prog 199 [d_ g,.d (.int .i64 f),.d (.int .i64 t)] [] (.d (ints (hops g f t))) [] []:=by
 have hr:=hg.r;refine aC Tryz.func199 rfl (fun E0=>?_);refine iK.sound (g:=.mk) (ow:=[32]) (kp:=(kb 0x400202001008001fcf)) ?_;rw[Tryz.ntmps199];simp -dsimp[d_];refine aF.of (LK g hg f) [] 0 ?_;rcases (au (decide (jE g=0)&&fM g.rs f)).symm with a1|a1
 ·simp -dsimp[a1,d_];refine Fin.view 6 ?_;simp -dsimp;refine Fin.of ?_;have e:hops g f t = []:=by
   rw[hops,if_neg];rintro⟨h1,h2,_⟩;simp[h1,h2]at a1
  simp[e,ints]
 have hc:jE g=0:=by simp at a1;exact a1.1
 have hf:fM g.rs f=true:=by simp at a1;exact a1.2
 have hO:=gY hc;simp -dsimp[a1,d_];refine aF.of (LK g hg t) [] 0 ?_;rcases (au (decide (jE g=0)&&fM g.rs t)).symm with a2|a2
 ·simp -dsimp[a1,a2,d_];refine Fin.view 6 ?_;simp -dsimp;refine Fin.of ?_;have e:hops g f t = []:=by
   rw[hops,if_neg];rintro⟨h1,_,h2,_⟩;simp[h1,h2]at a2
  simp[e,ints]
 have ht:fM g.rs t=true:=by simp at a2;exact a2.2
 by_cases a3:f=t
 ·simp -dsimp[a1,a2,eq_true a3,d_];refine Fin.view 6 ?_;simp -dsimp;refine Fin.of ?_;have e:hops g f t = []:=by
   rw[hops,if_neg];rintro⟨_,_,_,h⟩;exact h a3
  simp[e,ints]
 have hh:hops g f t=(Af g (dist g t) (g.rs.length+1) 0 ([f],[])).2:=by rw[hops,if_pos ⟨hc,hf,ht,a3⟩]
 have hdl:=agr g t;have hbd:=acV hO t;simp -dsimp[a1,a2,eq_false a3,d_];refine aF.of (alY g hO t) [] 0 ?_;simp -dsimp[a1,a2,a3,d_];rw[hh];generalize dist g t=d at hdl hbd;have asw:=hO.nr
 as_aux_lemma=>
 refine bY.of [32] (kb 0x400202001008001fcf) (ι:={w:(Nat×List Int×List Int)×Bool // w.1.1≤w.1.2.1.length∧w.1.2.1.Nodup∧(∀x∈w.1.2.1,fM g.rs x=true)∧w.1.2.2.length≤24*w.1.1∧Af g d (g.rs.length+1) 0 ([f],[])=Af g d (g.rs.length+1-w.1.1) w.1.1 w.1.2})
  (fun z=>[(.s 0,It.v (.agg [TV.d (.sl (rts g.rs)),TV.d (.sl (pq g.ls))])),(.s 1,It.v (.d (.int .i64 f))),(.s 2,It.v (.d (.int .i64 t))),(.o 3,It.box [TV.d (.sl (rts g.rs)),TV.d (.sl (pq g.ls))]),(.s 3,It.v (.ptr (.o 3) 0)),(.s 6,It.v (.c (Value.slice none 0 0))),(.s 7,It.v (.d (ints d))),(.s 8,It.v (.bK 32 z.1.1.2.1.length)),(.o 32,It.row 3 1 (dd (fE .i64 z.1.1.2.1)) z.1.2),(.s 9,It.v (.d (ints z.1.1.2.2))),(.s 10,It.v (.d (.int .i64 z.1.1.1)))]) (fun z=>g.rs.length+1-z.1.1.1) ⟨((0,[f],[]),false),by simp,by simp,by simpa using hf,by simp,rfl⟩ ?_ ?_
 ·exact GS.Gm 9 (by simp[ints,dd,fE])
 generalize Af g d (g.rs.length+1) 0 ([f],[])=H;rintro⟨⟨⟨i,seen,out⟩,sh⟩,i1,i2,i3,i4,i5⟩;simp only at i1 i2 i3 i4 i5;have hsl:=zT i2 i3;by_cases hi:i<seen.length
 ·have hiz:(i:Int)<seen.length:=by omega
  have hx:seen[i]? = some seen[i]:=ah hi;generalize seen[i]=x at hx;rw[show g.rs.length+1-i=(g.rs.length-i)+1 by omega,Af,if_pos hi,Dt hx]at i5
  have hsn:=afL g d x;have hsh:∀y∈steps g d x,fM g.rs y=true:=fun y hy=>EY hy
  simp -dsimp[hiz,Bh hx];and_intros;all_goals try first|rfl|omega|exact⟨by kernel_rfl⟩
  refine aF.of (afJ g hO d (by omega) hbd x) [] 0 ?_;simp -dsimp[d_];and_intros;all_goals try first|rfl|omega|exact⟨by kernel_rfl⟩
  generalize steps g d x=n at hsn hsh i5;refine bY.of [32] (kb 0x400202001008001fcf) (ι:={w:(Nat×List Int×List Int)×Bool // w.1.1≤n.length∧i<w.1.2.1.length∧w.1.2.1.Nodup∧(∀x∈w.1.2.1,fM g.rs x=true)∧w.1.2.2.length≤24*i+w.1.1∧n.foldl (wM g) (seen,out)=(n.drop w.1.1).foldl (wM g) w.1.2})
   (fun z=>[(.s 0,It.v (.agg [TV.d (.sl (rts g.rs)),TV.d (.sl (pq g.ls))])),(.s 1,It.v (.d (.int .i64 f))),(.s 2,It.v (.d (.int .i64 t))),(.o 3,It.box [TV.d (.sl (rts g.rs)),TV.d (.sl (pq g.ls))]),(.s 3,It.v (.ptr (.o 3) 0)),(.s 6,It.v (.c (Value.slice none 0 0))),(.s 7,It.v (.d (ints d))),(.s 8,It.v (.bK 32 z.1.1.2.1.length)),(.o 32,It.row 3 1 (dd (fE .i64 z.1.1.2.1)) z.1.2),(.s 9,It.v (.d (ints z.1.1.2.2))),(.s 10,It.v (.d (.int .i64 i))),(.s 11,It.v (.d (ints n))),(.s 12,It.v (.d (.int .i64 z.1.1.1)))]) (fun z=>n.length-z.1.1.1) ⟨((0,seen,out),sh),by simp,hi,i2,i3,by simpa using i4,rfl⟩ ?_ ?_
  ·exact GS.to (by simp)
  generalize hR:n.foldl (wM g) (seen,out)=R at i5;rintro⟨⟨⟨k,seen,out⟩,sh⟩,k1,k2,k3,k4,k5,k6⟩;simp only at k1 k2 k3 k4 k5 k6;have hsl:=zT k3 k4;by_cases hk:k<n.length
  ·have hkz:(k:Int)<n.length:=by omega
   have hy:n[k]? = some n[k]:=ah hk;have hym:=hsh _ (aB hk);have hdr:n.drop k=n[k]::n.drop (k+1):=aU hk;generalize n[k]=y at hy hym hdr;rw[hdr,cO,wM]at k6
   simp -dsimp[hkz,hy,ints];refine aF.of (O9 g hg y) [] 0 ?_;rcases (au (mZ g.rs y)).symm with c1|c1
   ·rw[if_neg (by simp[c1])]at k6
    simp -dsimp[eq_true hc,c1,ints,hy,d_];and_intros;all_goals try first|rfl|omega|exact⟨by kernel_rfl⟩
    refine aF.of (XP seen (by omega) y) [] 0 ?_;rcases (au (pY seen y)).symm with c2|c2
    ·rw[if_neg (by simp[c2])]at k6
     simp -dsimp[eq_true hc,c1,c2,ints,hy,d_,wrap_i64 (n:=(k:Int)+1) (by omega) (by omega)];and_intros;all_goals try first|rfl|omega|exact⟨by kernel_rfl⟩
     have hnd:(seen++[y]).Nodup:=by rw[jh];refine⟨k3,by simp,fun a ha b hb e=>?_⟩;simp at hb;subst hb;subst e;simp[pY,ha]at c2
     exact⟨⟨((k+1,seen++[y],out),true),by simp;omega,by simp;omega,hnd,fun x hx=>by
      rcases aJ.1 hx with hx|hx
      ·exact k4 x hx
      ·simp at hx;subst hx;exact hym,by simp;omega,k6⟩,GS.to (by simp[fE,ints]),by simp;omega⟩
    ·rw[if_pos c2]at k6
     simp -dsimp[eq_true hc,c1,c2,ints,hy,d_,wrap_i64 (n:=(k:Int)+1) (by omega) (by omega)];and_intros;all_goals try first|rfl|omega|exact⟨by kernel_rfl⟩
     exact⟨⟨((k+1,seen,out),true),by simp;omega,k2,k3,k4,by simp;omega,k6⟩,GS.to (by simp[ints]),by simp;omega⟩
   ·rw[if_pos c1]at k6
    simp -dsimp[eq_true hc,c1,ints,hy,d_];and_intros;all_goals try first|rfl|omega|exact⟨by kernel_rfl⟩
    refine aF.of (Tf out (by omega) y) [] 0 ?_;simp -dsimp[eq_true hc,c1,ints,hy,d_,wrap_i64 (n:=(k:Int)+1) (by omega) (by omega)];and_intros;all_goals try first|rfl|omega|exact⟨by kernel_rfl⟩
    have:=ZF out y;exact⟨⟨((k+1,seen,nT out y),sh),by simp;omega,k2,k3,k4,by simp;omega,k6⟩,GS.to (by simp[ints]),by simp;omega⟩
  ·have hkz :¬(k:Int)<n.length:=by omega
   rw[dJ (by omega),rD]at k6
   simp -dsimp[hkz,ints,wrap_i64 (n:=(i:Int)+1) (by omega) (by omega)];exact⟨⟨((i+1,seen,out),sh),by simp;omega,k3,k4,by simp;omega,by rw[i5,k6,show g.rs.length+1-(i+1)=g.rs.length-i by omega]⟩,GS.to (by simp[ints]),by simp;omega⟩
 ·have hiz :¬(i:Int)<seen.length:=by omega
  have e:H=(seen,out):=by
   rw[i5];cases g.rs.length+1-i with
   | zero=>rfl
   | succ k=>rw[Af,if_neg hi]
  simp -dsimp[hiz];refine Fin.of ?_;simp[e]
def wE(g:bV)(r:Int)(e:Ed):Rw:=⟨e.id,if e.r=r then [r]else if jE g=0∧mZ g.rs e.r=true then hops g r e.r else []⟩
def nN(g:bV)(p:Pn)(r:Int):Tb:=⟨r,p.gU,p.len,p.es.map (wE g r)⟩
def Gs(g:bV)(r:Int)(es:List Ed):List (List D):=(es.map (wE g r)).map Rw.cs
@[simp]theorem af4(g:bV)(r:Int)(es:List Ed):(Gs g r es).length=es.length:=by simp[Gs]
theorem KO(g:bV)(r:Int)(es:List Ed)(x:Ed):Gs g r (es++[x])=Gs g r es++[(wE g r x).cs]:=by simp[Gs]
theorem VF(g:bV)(hg:g.Sm)(p:Pn)(hp:p.es.length≤1000000)(r:Int):Contract Tryz.prog 125 [d_ g,iE p,.d (.int .i64 r)] [] (gQ (nN g p r)) [] []:=by
 have hr:=hg.r;refine aC Tryz.func125 rfl (fun E0=>?_);refine iK.sound (g:=.mk) (ow:=[]) (kp:=(kb 0x10020001003df)) ?_;rw[Tryz.ntmps125];simp -dsimp[d_,iE]
 refine bY.of [] (kb 0x10020001003df) (ι:={i:Nat // i≤p.es.length}) (fun z=>[(.s 0,It.v (.agg [TV.d (.sl (rts g.rs)),TV.d (.sl (pq g.ls))])),(.s 1,It.v (.agg [TV.d (.int .i64 p.gU),TV.d (.int .i64 p.len),TV.d (.sl (lX p.es))])),(.s 2,It.v (.d (.int .i64 r))),(.o 3,It.box [TV.d (.sl (rts g.rs)),TV.d (.sl (pq g.ls))]),(.s 3,It.v (.ptr (.o 3) 0)),(.o 4,It.box [TV.d (.int .i64 p.gU),TV.d (.int .i64 p.len),TV.d (.sl (lX p.es))]),(.s 4,It.v (.ptr (.o 4) 0)),(.o 6,It.box [TV.d (.int .i64 0),TV.d (.int .i64 0),TV.d (.int .i64 0),TV.c (Value.slice none 0 0)]),(.s 6,It.v (.ptr (.o 6) 0)),(.s 7,It.v (.ptr (.o 7) 0)),(.o 7,It.box [TV.d (.int .i64 r),TV.d (.int .i64 p.gU),TV.d (.int .i64 p.len),TV.bK 1000 z.1]),(.o 1000,It.row 167 2 (dd (Gs g r (p.es.take z.1))) false),(.s 8,It.v (.d (.int .i64 z.1)))]) (fun z=>p.es.length-z.1) ⟨0,by omega⟩ ?_ ?_
 ·exact GS.AV (.o 7) 3 1000 (cs:=[TV.d (.int .i64 r),TV.d (.int .i64 p.gU),TV.d (.int .i64 p.len),TV.c (Value.slice none 0 0)]) 167 2 (by simp) (by simp) (by simp) (by simp) (by simp[Gs])
 rintro⟨i,i1⟩;by_cases hi:i<p.es.length
 ·have hiz:(i:Int)<p.es.length:=by omega
  have hx:p.es[i]? = some p.es[i]:=ah hi;have ht:p.es.take (i+1)=p.es.take i++[p.es[i]]:=by rw[aO,ah hi];rfl
  generalize p.es[i]=x at hx ht;have hx':=Fv hx;by_cases a1:x.r=r
  ·simp -dsimp[hiz,hx',Ed.cs,eq_true a1,wrap_i64 (n:=(i:Int)+1) (by omega) (by omega)];and_intros;all_goals try first|rfl|omega|exact⟨by kernel_rfl⟩
   have hb:wE g r x=⟨x.id,[r]⟩:=by simp[wE,a1]
   exact⟨⟨i+1,by omega⟩,GS.to (by simp[ht,KO,hb,Rw.cs,ints]),by simp;omega⟩
  simp -dsimp[hiz,hx',Ed.cs,eq_false a1,d_];refine aF.of (O9 g hg x.r) [] 0 ?_;rcases (au (decide (jE g=0)&&mZ g.rs x.r)).symm with a2|a2
  ·simp -dsimp[hiz,hx',Ed.cs,eq_false a1,d_,a2,wrap_i64 (n:=(i:Int)+1) (by omega) (by omega)];and_intros;all_goals try first|rfl|omega|exact⟨by kernel_rfl⟩
   have hb:wE g r x=⟨x.id,[]⟩:=by simp[wE,a1];intro h1 h2;simp[h1,h2]at a2
   exact⟨⟨i+1,by omega⟩,GS.to (by simp[ht,KO,hb,Rw.cs,ints]),by simp;omega⟩
  ·simp -dsimp[hiz,hx',Ed.cs,eq_false a1,d_,a2];and_intros;all_goals try first|rfl|omega|exact⟨by kernel_rfl⟩
   refine aF.of (ag6 g hg r x.r) [] 0 ?_;simp -dsimp[hiz,hx',Ed.cs,eq_false a1,d_,a2,wrap_i64 (n:=(i:Int)+1) (by omega) (by omega)];and_intros;all_goals try first|rfl|omega|exact⟨by kernel_rfl⟩
   have hb:wE g r x=⟨x.id,hops g r x.r⟩:=by simp at a2;simp[wE,a1,a2]
   exact⟨⟨i+1,by omega⟩,GS.to (by simp[ht,KO,hb,Rw.cs,ints]),by simp;omega⟩
 ·have hiz :¬(i:Int)<p.es.length:=by omega
  obtain rfl:i=p.es.length:=by omega
  simp -dsimp[hiz];refine Fin.box (.o 6) rfl ?_;simp -dsimp;refine Fin.of ?_;simp[gQ,nN,dZ,Gs]
def Tb.cs(b:Tb):List D:=[.int .i64 b.r,.int .i64 b.sd,.int .i64 b.len,dZ b.rows]
def tabs(g:bV)(p:Pn)(rs:List Rt):List Tb:=(rs.filter (·.cap)).map fun x=>nN g p x.id
def Nq(g:bV)(p:Pn)(rs:List Rt):List (List D):=(tabs g p rs).map Tb.cs
theorem aaG(g:bV)(p:Pn)(rs:List Rt):(Nq g p rs).length≤rs.length:=by simp only[Nq,tabs,aN];exact aQ _ _
theorem aaF(g:bV)(p:Pn)(rs:List Rt)(x:Rt):Nq g p (rs++[x])=if x.cap then Nq g p rs++[(nN g p x.id).cs]else Nq g p rs:=by simp only[Nq,tabs,bJ,fH];cases h:x.cap<;>simp[h]
def allT(l:List Tb)(e:Int):TV:=.sZ [.d (.sl (l.map Tb.cs)),.d (.int .i64 e)]
open Classical in
noncomputable def yE(g:bV)(p:Pn):List Tb×Int:=if jE g=0∧iT p=true then(tabs g p g.rs,0)else([],1)
theorem IC(g:bV)(hg:g.Sm)(p:Pn)(hp:p.es.length≤1000):Contract Tryz.prog 54 [d_ g,iE p] [] (allT (yE g p).1 (yE g p).2) [] []:=by
 have hr:=hg.r;refine aC Tryz.func54 rfl (fun E0=>?_);refine iK.sound (g:=.mk) (ow:=[]) (kp:=(kb 0x101080ff)) ?_;rw[Tryz.ntmps54];simp -dsimp[d_,iE];refine aF.of (D8 g hg.r hg.l) [] 0 ?_;by_cases hc:jE g=0
 ·simp -dsimp[eq_true hc,d_];refine aF.of (DV p hp) [] 0 ?_;rcases (au (iT p)).symm with a1|a1
  ·simp -dsimp[eq_true hc,a1,iE];and_intros;all_goals try first|rfl|omega|exact⟨by kernel_rfl⟩
   refine Fin.view 4 ?_;simp -dsimp;refine Fin.of ?_;simp[yE,a1,allT]
  ·have he:yE g p=(tabs g p g.rs,0):=by rw[yE,if_pos ⟨hc,a1⟩]
   have hn:g.rs.length≤24:=(gY hc).nr;rw[he];clear he;simp -dsimp[eq_true hc,a1,iE];and_intros;all_goals try first|rfl|omega|exact⟨by kernel_rfl⟩
   as_aux_lemma=>
   refine bY.of [] (kb 0x101080ff) (ι:={i:Nat // i≤g.rs.length∧True}) (fun z=>[(.s 0,It.v (.agg [TV.d (.sl (rts g.rs)),TV.d (.sl (pq g.ls))])),(.s 1,It.v (.agg [TV.d (.int .i64 p.gU),TV.d (.int .i64 p.len),TV.d (.sl (lX p.es))])),(.o 2,It.box [TV.d (.sl (rts g.rs)),TV.d (.sl (pq g.ls))]),(.s 2,It.v (.ptr (.o 2) 0)),(.o 3,It.box [TV.d (.int .i64 p.gU),TV.d (.int .i64 p.len),TV.d (.sl (lX p.es))]),(.s 3,It.v (.ptr (.o 3) 0)),(.s 4,It.v (.c (Value.slice none 0 0))),(.s 5,It.v (.d (.int .i64 0))),(.s 6,It.v (.bK 6 (Nq g p (g.rs.take z.1)).length)),(.o 6,It.row 65 4 (dd (Nq g p (g.rs.take z.1))) false),(.s 7,It.v (.d (.int .i64 z.1)))]) (fun z=>g.rs.length-z.1) ⟨0,by omega,trivial⟩ ?_ ?_
   ·exact GS.own' (k:=6) 65 4 (by simp) (by simp) (by simp[Nq,tabs])
   rintro⟨i,i1,i2⟩;by_cases hi:i<g.rs.length
   ·have hiz:(i:Int)<g.rs.length:=by omega
    have hx:g.rs[i]? = some g.rs[i]:=ah hi;have ht:g.rs.take (i+1)=g.rs.take i++[g.rs[i]]:=by rw[aO,ah hi];rfl
    generalize g.rs[i]=x at hx ht;have hx':=r_ hx;have hta:=aaF g p (g.rs.take i) x;have htl:=aaG g p (g.rs.take i);rw[←ht]at hta
    simp at htl;rcases (au x.cap).symm with c1|c1
    ·rw[if_neg (by simp[c1])]at hta
     simp -dsimp[hiz,hx',Rt.cs,c1,wrap_i64 (n:=(i:Int)+1) (by omega) (by omega)];and_intros;all_goals try first|rfl|omega|exact⟨by kernel_rfl⟩
     exact⟨⟨i+1,by omega,trivial⟩,GS.to (by simp[hta]),by simp;omega⟩
    ·rw[if_pos c1]at hta
     simp -dsimp[hiz,hx',Rt.cs,c1];refine aF.of (VF g hg p (by omega) x.id) [] 0 ?_;simp -dsimp[hiz,hx',Rt.cs,c1,d_,iE,gQ,dZ,wrap_i64 (n:=(i:Int)+1) (by omega) (by omega)];and_intros;all_goals try first|rfl|omega|exact⟨by kernel_rfl⟩
     exact⟨⟨i+1,by omega,trivial⟩,GS.to (by simp[hta,Tb.cs,dZ]),by simp;omega⟩
   ·have hiz :¬(i:Int)<g.rs.length:=by omega
    obtain rfl:i=g.rs.length:=by omega
    simp -dsimp[hiz];refine Fin.view 4 ?_;simp -dsimp;refine Fin.of ?_;simp[allT,Nq]
 ·simp -dsimp[eq_false hc,d_];and_intros;all_goals try first|rfl|omega|exact⟨by kernel_rfl⟩
  refine Fin.view 4 ?_;simp -dsimp;refine Fin.of ?_;simp[yE,hc,allT]
theorem afs{g:bV}(hg:g.Ok){f t c:Int}(h:price g.ls f t=some c):1≤c:=by
 have:∀l:List Lk,(∀x∈l,x∈g.ls)→price l f t=some c→1≤c:=by
  intro l
  induction l with
  | nil=>simp[price]
  | cons x l ih=>
    intro hm h;have hc:=hg.c (hm x (by simp))
    grind[price]
 grind
theorem aio{g:bV}(hg:g.Ok){d:List Int}{f x:Int}(h:x∈steps g d f):atR g d x<atR g d f:=by
 unfold steps at h;split at h
 ·trivial
 ·obtain⟨h1,h2⟩:=bG.1 h;simp only[near,ay,bG]at h1;obtain⟨y,⟨_,hy⟩,rfl⟩:=h1;obtain⟨c,hc⟩:=nM.1 hy;have:=afs hg hc;simp only[DU,hc,bf,aP,decide_eq_true_eq]at h2;omega
structure NK(g:bV)(d:List Int)(a:Int)(s:List Int×List Int):Prop where
 seen:∀x∈s.1,atR g d x≤a
 NR:s.2.Pairwise (· < ·)
 out:∀x∈s.2,atR g d x<a∧fM g.rs x=true∧mZ g.rs x=true
theorem NK.step{g:bV}{d:List Int}{a n:Int}{s:List Int×List Int}(h:NK g d a s)(h1:atR g d n<a)(h2:fM g.rs n=true):NK g d a (wM g s n):=by
 unfold wM;split
 ·obtain⟨h3,h4⟩:=Ep n h.NR;refine⟨h.seen,h3,fun x hx=>?_⟩;rcases (h4 x).1 hx with hx|rfl
  ·exact h.out x hx
  trivial
 ·split
  ·omega
  ·refine⟨fun x hx=>?_,h.NR,h.out⟩;rcases aJ.1 hx with hx|hx
   ·exact h.seen x hx
   grind
theorem NK.steps{g:bV}{d:List Int}{a:Int}:∀(l:List Int) (s:List Int×List Int),(∀x∈l,atR g d x<a∧fM g.rs x=true)→NK g d a s→NK g d a (l.foldl (wM g) s)
 | [],_,_,h=>h
 | n::l,s,hl,h=>by exact NK.steps l _ (fun x hx=>hl x (by simp[*])) (h.step (hl n (by simp)).1 (hl n (by simp)).2)
theorem NK.all{g:bV}(hg:g.Ok){d:List Int}{a:Int}:∀(k i:Nat) (s:List Int×List Int),NK g d a s→NK g d a (Af g d k i s)
 | 0,_,_,h=>h
 | k+1,i,s,h=>by
   rw[Af];split
   ·refine NK.all hg k (i+1) _ (NK.steps _ _ (fun x hx=>?_) h);have h1:=aio hg hx;have h2:=h.seen (s.1.getD i 0) (by simp[*])
    grind[EY]
   omega
theorem QA(g:bV)(f t:Int):(hops g f t).Pairwise (· < ·)∧∀x∈hops g f t,fM g.rs x=true∧mZ g.rs x=true∧x≠f:=by
 unfold hops;split
 ·rename_i h;have:=NK.all (gY h.1) (d:=dist g t) (a:=atR g (dist g t) f) (g.rs.length+1) 0 ([f],[]) ⟨by simp,by simp,by simp⟩;exact⟨this.NR,fun x hx=>⟨(this.out x hx).2.1,(this.out x hx).2.2,fun e=>by have:=(this.out x hx).1;simp_all⟩⟩
 simp
theorem bV.Ok.id{g:bV}(h:g.Ok){r:Int}(hr:fM g.rs r=true):Df r 1 99:=by
 obtain⟨x,hx,rfl⟩:=ay.1 (nI.1 hr);have:=dL.1 h.ids x hx;simp[inB]at this
 trivial
theorem aeh{g:bV}(hg:jE g=0){p:Pn}(hp:iT p=true){r:Int}(hr:fM g.rs r=true):chk (nN g p r)=0:=by
 have hO:=gY hg;have XV:=hO.id hr;simp only[iT,decide_eq_true_eq]at hp;obtain⟨hb,he,_⟩:=hp;simp only[vV,inB,aP,gJ,decide_eq_true_eq]at hb;obtain⟨b1,b2,b3⟩:=hb;have hed:∀{i:Nat} {e:Ed},p.es[i]? = some e→Df e.id 1 256∧(i=0∨∃e',p.es[i-1]? = some e'∧e'.id<e.id):=fun {i e} hi=>by
  obtain⟨h1,h2⟩:=aA.1 hi;have h3:=he i h1;have g1:p.es.getD i ⟨0,0⟩ = e:=by simp[*]
  simp only[Oc,gid,G5,g1,inB,aP,gJ,decide_eq_true_eq]at h3;refine⟨h3.1,h3.2.2.imp id fun h=>?_⟩
  grind
 have hnx:∀e:Ed,(∀n∈(wE g r e).nx,Df n 1 99)∧(wE g r e).nx.Pairwise (· < ·)∧(wE g r e).nx.length≤24∧¬(1<(wE g r e).nx.length∧r∈(wE g r e).nx):=fun e=>by
  unfold wE;simp only;split
  ·simp[*]
  ·split
   ·obtain⟨h1,h2⟩:=QA g r e.r;refine⟨fun n hn=>hO.id (h2 n hn).1,h1,?_,fun h=>(h2 r h.2).2.2 rfl⟩;exact aY (zT (h1.imp fun h=>by omega) fun x hx=>(h2 x hx).1) hO.nr
   simp
 have hmem:∀{x:Rw},x∈(nN g p r).rows→∃(i:Nat) (e:Ed),p.es[i]? = some e∧x=wE g r e:=fun {x} hx=>by
  obtain⟨e,he,rfl⟩:=ay.1 hx;obtain⟨i,hi⟩:=bM he
  grind
 refine N_ ⟨XV,b1,b2.imp id fun h=>⟨h.1,by grind[nN]⟩⟩ ?_ (by grind[nN]) ?_ (Q5 (fun a x y hx hy=>?_) fun x hx=>?_) ?_
 ·rintro⟨x,hx,ho⟩;obtain⟨i,e,hi,rfl⟩:=hmem hx;rcases ho with ho|⟨n,hn,ho⟩
  ·exact ho (hed hi).1
  grind
 ·grind
 ·simp only[nN,bC,fV]at hx hy;obtain⟨e,h1,rfl⟩:=hx;obtain⟨e',h2,rfl⟩:=hy;rcases (hed h2).2 with h|⟨e2,h3,h4⟩
  ·omega
  ·simp only[qx]at h3;rw[h1]at h3
   simp only[aj]at h3;subst h3
   trivial
 ·grind
 ·rintro⟨x,hx,h1,h2⟩;obtain⟨i,e,hi,rfl⟩:=hmem hx;exact(hnx e).2.2.2 ⟨h1,h2⟩
theorem aeM(l:List Tb)(hl:l.length≤1000000)(f:FuncId)(q:Tb→Bool)(hf:∀x,x∈l→Contract Tryz.prog f [gQ x] [] (.d (.bool (q x))) [] [])(hok:dP Tryz.prog f=true):
  Contract Tryz.prog 228 [.d (.sl (l.map Tb.cs)),.clo f []] [] (.d (.int .i64 (JQ q l))) [] []:=by
 refine aC Tryz.func228 rfl (fun E0=>?_);refine iK.sound (g:=.mk) (ow:=[]) (kp:=(kb 0x103b3)) ?_;rw[Tryz.ntmps228];simp -dsimp;refine bY.of [] (kb 0x103b3) (ι:={i:Nat // i≤l.length∧∀a,a<i→∀x,l[a]? = some x→q x=false})
  (fun z=>[(.s 0,It.v (.d (.sl (l.map Tb.cs)))),(.s 1,It.v (.clo f [])),(.s 4,It.v (.d (.int .i64 0))),(.s 7,It.v (.d (.int .i64 l.length))),(.s 8,It.v (.d (.int .i64 z.1)))]) (fun z=>l.length-z.1) ⟨0,by omega,fun a h=>by omega⟩ ?_ ?_
 ·exact GS.to (by simp)
 ·rintro⟨i,i1,i2⟩;by_cases hi:i<l.length
  ·have hiz:(i:Int)<l.length:=by omega
   have hx:l[i]? = some l[i]:=ah hi;have hm:l[i]∈l:=aB hi;generalize l[i]=x at hx hm;simp -dsimp[hiz,hx,Tb.cs,dZ,wrap_i64 (n:=(i:Int)+1) (by omega) (by omega)];and_intros;all_goals try first|rfl|omega|exact⟨by kernel_rfl⟩
   refine aF.of (hf x hm) [] 0 ?_;rcases (au (q x)).symm with h|h
   ·simp -dsimp[h,hok,gQ,dZ,wrap_i64 (n:=(i:Int)+1) (by omega) (by omega)];and_intros;all_goals try first|rfl|omega|exact⟨by kernel_rfl⟩
    exact⟨⟨i+1,by omega,fun a ha y hy=>by
     by_cases e:a=i
     ·subst e;rw[hx]at hy;simp only[aj]at hy;subst hy;exact h
     ·exact i2 a (by omega) y hy⟩,GS.to (by simp),by simp;omega⟩
   ·simp -dsimp[h,hok,gQ,dZ];and_intros;all_goals try first|rfl|omega|exact⟨by kernel_rfl⟩
    refine Fin.of ?_;simp[FK hx h i2]
  ·simp -dsimp[hi];refine Fin.of ?_;simp;exact(FM fun a ha=>i2 a (by omega)).symm
theorem U5(l:List Tb)(hl:l.length≤1000000)(f:FuncId)(q:Tb→Bool)(hf:∀x,x∈l→Contract Tryz.prog f [gQ x] [] (.d (.bool (q x))) [] [])(hok:dP Tryz.prog f=true):
  Contract Tryz.prog 171 [.d (.sl (l.map Tb.cs)),.clo f []] [] (.d (.bool (l.any q))) [] []:=by
 refine aC Tryz.func171 rfl (fun E0=>?_);refine iK.sound (g:=.mk) (ow:=[]) (kp:=(kb 0x13)) ?_;rw[Tryz.ntmps171];simp -dsimp;refine aF.of (aeM l hl f q hf hok) [] 0 ?_;simp -dsimp;refine Fin.of ?_;simp[AZ]
theorem aeN(l:List Tb)(hl:l.length≤1000000)(f:FuncId)(ds:List D)(q:Tb→Bool)(hf:∀x,x∈l→Contract Tryz.prog f [gQ x,.ptr (.x 0) 0] [.box (ds.map .d)] (.d (.bool (q x))) [.box (ds.map .d)] [])(hok:dP Tryz.prog f=true):
  Contract Tryz.prog 228 [.d (.sl (l.map Tb.cs)),.clo f [.ptr (.x 0) 0]] [.box (ds.map .d)] (.d (.int .i64 (JQ q l))) [.box (ds.map .d)] []:=by
 refine aC Tryz.func228 rfl (fun E0=>?_);refine iK.sound (g:=.mk) (ow:=[]) (kp:=(kb 0x103b3)) ?_;rw[Tryz.ntmps228];simp -dsimp;refine bY.of [] (kb 0x103b3) (ι:={i:Nat // i≤l.length∧∀a,a<i→∀x,l[a]? = some x→q x=false})
  (fun z=>[(.s 0,It.v (.d (.sl (l.map Tb.cs)))),(.s 1,It.v (.clo f [TV.ptr (.x 0) 0])),(.x 0,It.box (List.map TV.d ds)),(.s 4,It.v (.d (.int .i64 0))),(.s 7,It.v (.d (.int .i64 l.length))),(.s 8,It.v (.d (.int .i64 z.1)))]) (fun z=>l.length-z.1) ⟨0,by omega,fun a h=>by omega⟩ ?_ ?_
 ·exact GS.to (by simp)
 ·rintro⟨i,i1,i2⟩;by_cases hi:i<l.length
  ·have hiz:(i:Int)<l.length:=by omega
   have hx:l[i]? = some l[i]:=ah hi;have hm:l[i]∈l:=aB hi;generalize l[i]=x at hx hm;simp -dsimp[hiz,hx,Tb.cs,dZ,wrap_i64 (n:=(i:Int)+1) (by omega) (by omega)];and_intros;all_goals try first|rfl|omega|exact⟨by kernel_rfl⟩
   refine aF.of (hf x hm) [.x 0] 0 ?_;rcases (au (q x)).symm with h|h
   ·simp -dsimp[h,hok,gQ,dZ,wrap_i64 (n:=(i:Int)+1) (by omega) (by omega)];and_intros;all_goals try first|rfl|omega|exact⟨by kernel_rfl⟩
    exact⟨⟨i+1,by omega,fun a ha y hy=>by
     by_cases e:a=i
     ·subst e;rw[hx]at hy;simp only[aj]at hy;subst hy;exact h
     ·exact i2 a (by omega) y hy⟩,GS.to (by simp),by simp;omega⟩
   ·simp -dsimp[h,hok,gQ,dZ];and_intros;all_goals try first|rfl|omega|exact⟨by kernel_rfl⟩
    refine Fin.of ?_;simp[FK hx h i2]
  ·simp -dsimp[hi];refine Fin.of ?_;simp;exact(FM fun a ha=>i2 a (by omega)).symm
theorem U6(l:List Tb)(hl:l.length≤1000000)(f:FuncId)(ds:List D)(q:Tb→Bool)(hf:∀x,x∈l→Contract Tryz.prog f [gQ x,.ptr (.x 0) 0] [.box (ds.map .d)] (.d (.bool (q x))) [.box (ds.map .d)] [])(hok:dP Tryz.prog f=true):
  Contract Tryz.prog 171 [.d (.sl (l.map Tb.cs)),.clo f [.ptr (.x 0) 0]] [.box (ds.map .d)] (.d (.bool (l.any q))) [.box (ds.map .d)] []:=by
 refine aC Tryz.func171 rfl (fun E0=>?_);refine iK.sound (g:=.mk) (ow:=[]) (kp:=(kb 0x13)) ?_;rw[Tryz.ntmps171];simp -dsimp;refine aF.of (aeN l hl f ds q hf hok) [.x 0] 0 ?_;simp -dsimp;refine Fin.of ?_;simp[AZ]
def ig(l:List Tb):List (List D):=l.map Tb.cs
def rws(l:List Rw):List (List D):=l.map Rw.cs
theorem ajJ{l:List Rw}{i:Nat}{x:Rw}(h:l[i]? = some x):(rws l)[i]? = some [.int .i64 x.id,ints x.nx]:=by simp[rws,h,Rw.cs]
@[simp]theorem aqS(l:List Rw):(rws l).length=l.length:=by simp[rws]
theorem ajI(l:List Rw)(x:Rw):rws (l++[x])=rws l++[[.int .i64 x.id,ints x.nx]]:=by simp[rws,Rw.cs]
theorem uz(l:List Rw):dZ l = .sl (rws l):=rfl
theorem zU{l:List Tb}{i:Nat}{b:Tb}(h:l[i]? = some b):(ig l)[i]? = some [.int .i64 b.r,.int .i64 b.sd,.int .i64 b.len,.sl (rws b.rows)]:=by simp[ig,h,Tb.cs,uz]
@[simp]theorem aqU(l:List Tb):(ig l).length=l.length:=by simp[ig]
structure UY(l:List Tb):Prop where
 n:l.length≤1000
 t:∀b∈l,b.Sm
structure Tb.SmB(b:Tb):Prop where
 rows:b.rows.length≤9223372036854775807
 nx:∀x∈b.rows,x.nx.length≤9223372036854775807
theorem Tb.Sm.big{b:Tb}(h:b.Sm):b.SmB:=⟨aY h.rows (by decide),fun x hx=>aY (h.nx x hx) (by decide)⟩
structure afX(l:List Tb):Prop where
 n:l.length≤1000
 t:∀b∈l,b.SmB
theorem UY.big{l:List Tb}(h:UY l):afX l:=⟨h.n,fun b hb=>(h.t b hb).big⟩
def tb0:Tb:=⟨0,0,0,[]⟩
def tK(l:List Tb):Int:=oG [(decide (24<l.length),3),(l.any fun b=>decide (chk b≠0),1),(pV (fun x y=>decide (y.r≤x.r)) l,25),
 (l.any fun b=>decide (b.sd≠(l.headD tb0).sd)||decide (b.len≠(l.headD tb0).len),8)]
def iq(l:List Tb)(r:Int):Option Tb:=l.find? fun b=>decide (b.r=r)
def rY(o:Option Tb):TV:=.sZ [gQ (o.getD tb0),.d (.bool o.isSome)]
theorem Ef(l:List Tb)(hl:UY l)(r:Int):Contract Tryz.prog 108 [.d (.sl (ig l)),.d (.int .i64 r)] [] (rY (iq l r)) [] []:=by
 have hn:=hl.n;refine aC Tryz.func108 rfl (fun E0=>?_);refine iK.sound (g:=.mk) (ow:=[]) (kp:=(kb 0x80473)) ?_;rw[Tryz.ntmps108];simp -dsimp
 refine bY.of [] (kb 0x80473) (ι:={i:Nat // i≤l.length∧iq l r=iq (l.drop i) r}) (fun z=>[(.s 0,It.v (.d (.sl (ig l)))),(.s 1,It.v (.d (.int .i64 r))),(.o 4,It.box [TV.d (.int .i64 0),TV.d (.int .i64 0),TV.d (.int .i64 0),TV.c (Value.slice none 0 0)]),(.s 4,It.v (.ptr (.o 4) 0)),(.s 5,It.v (.d (.bool false))),(.s 6,It.v (.d (.int .i64 z.1)))]) (fun z=>l.length-z.1) ⟨0,by omega,rfl⟩ ?_ ?_
 ·exact GS.to (by simp)
 rintro⟨i,i1,i2⟩;by_cases hi:i<l.length
 ·have hiz:(i:Int)<l.length:=by omega
  have hx:l[i]? = some l[i]:=ah hi;generalize l[i]=b at hx;have hx':=zU hx;by_cases hr:b.r=r
  ·have e:iq l r=some b:=R_ hx i2 (by simpa using hr);simp -dsimp[hiz,hx',eq_true hr];and_intros;all_goals try first|rfl|omega|exact⟨by kernel_rfl⟩
   refine Fin.of ?_;simp[rY,e,gQ,uz]
  ·have e:iq l r=iq (l.drop (i+1)) r:=Oo hx i2 (by simpa using hr);simp -dsimp[hiz,hx',eq_false hr,wrap_i64 (n:=(i:Int)+1) (by omega) (by omega)];and_intros;all_goals try first|rfl|omega|exact⟨by kernel_rfl⟩
   exact⟨⟨i+1,by omega,e⟩,GS.to (by simp[]),by simp;omega⟩
 ·have e:iq l r=none:=RZ i2 hi;have hiz :¬(i:Int)<l.length:=by omega
  simp -dsimp[hiz];refine Fin.box (.o 4) rfl ?_;simp -dsimp;refine Fin.of ?_;simp[rY,e,gQ,uz,tb0,rws]
theorem wW(l:List Tb)(hl:afX l):Contract Tryz.prog 106 [.d (.sl (ig l))] [] (.d (.int .i64 (tK l))) [] []:=by
 have hn:=hl.n;refine aC Tryz.func106 rfl (fun E0=>?_);refine iK.sound (g:=.mk) (ow:=[]) (kp:=(kb 0x4000004400110113d)) ?_;rw[Tryz.ntmps106];by_cases c1:24<l.length
 ·have xB:(24:Int)<l.length:=by omega
  simp -dsimp[xB];refine Fin.of ?_;simp[tK,oG,c1]
 have xB :¬(24:Int)<l.length:=by omega
 simp -dsimp[xB];clear xB;refine bY.of [] (kb 0x4000004400110113d) (ι:={i:Nat // i≤l.length∧(l.any fun b=>decide (chk b≠0))=(l.drop i).any fun b=>decide (chk b≠0)}) (fun z=>[(.s 0,It.v (.d (.sl (ig l)))),(.s 2,It.v (.d (.int .i64 0))),(.s 3,It.v (.d (.int .i64 z.1)))]) (fun z=>l.length-z.1) ⟨0,by omega,rfl⟩ ?_ ?_
 ·exact GS.to (by simp)
 rintro⟨i,i1,i2⟩;by_cases hi:i<l.length
 ·have hiz:(i:Int)<l.length:=by omega
  have hx:l[i]? = some l[i]:=ah hi;have hm:=hl.t l[i] (aB hi);generalize l[i]=b at hx hm;have hx':=zU hx;simp -dsimp[hiz,hx'];and_intros;all_goals try first|rfl|omega|exact⟨by kernel_rfl⟩
  refine aF.of (Fh b hm.rows hm.nx) [] 0 ?_;by_cases a1:chk b=0
  ·simp -dsimp[hiz,hx',gQ,uz,eq_true a1,wrap_i64 (n:=(i:Int)+1) (by omega) (by omega)];and_intros;all_goals try first|rfl|omega|exact⟨by kernel_rfl⟩
   exact⟨⟨i+1,by omega,BK hx i2 (by simpa using a1)⟩,GS.to (by simp[]),by simp;omega⟩
  ·simp -dsimp[hiz,hx',gQ,uz,eq_false a1];and_intros;all_goals try first|rfl|omega|exact⟨by kernel_rfl⟩
   refine Fin.of ?_;have e:(l.any fun b=>decide (chk b≠0))=true:=AX hx (by simpa using a1);simp only[tK,oG,cond_true,cond_false,decide_eq_false c1,e];simp
 have e1:=Fg i2 hi;have hiz :¬(i:Int)<l.length:=by omega
 simp -dsimp[hiz]
 as_aux_lemma=>
 refine bY.of [] (kb 0x4000004400110113d) (ι:={i:Nat // i≤l.length∧pV (fun x y=>decide (y.r≤x.r)) l=pV (fun (x y:Tb)=>decide (y.r≤x.r)) (l.drop i)}) (fun z=>[(.s 0,It.v (.d (.sl (ig l)))),(.s 2,It.v (.d (.int .i64 0))),(.s 4,It.v (.d (.int .i64 ((z.1:Int)+1))))]) (fun z=>l.length-z.1) ⟨0,by omega,rfl⟩ ?_ ?_
 ·exact GS.to (by simp)
 rintro⟨i,i1,i2⟩;by_cases hi:i+1<l.length
 ·have hi0:i<l.length:=by omega
  have hiz:(i:Int)+1<l.length:=by omega
  have hx:l[i]? = some l[i]:=ah hi0;have hy:l[i+1]? = some l[i+1]:=ah hi;generalize l[i]=x at hx;generalize l[i+1]=y at hy;have hx':=zU hx;have hy':=zU hy;by_cases a1:y.r≤x.r
  ·simp -dsimp[hiz,hx',hy',a1,kH,wrap_i64 (n:=(i:Int)) (by omega) (by omega)];and_intros;all_goals try first|rfl|omega|exact⟨by kernel_rfl⟩
   refine Fin.of ?_;have e:=zN hx hy i2 (by simpa using a1);simp only[tK,oG,cond_true,cond_false,decide_eq_false c1,e1,e];simp
  ·simp -dsimp[hiz,hx',hy',a1,kH,wrap_i64 (n:=(i:Int)) (by omega) (by omega),wrap_i64 (n:=(i:Int)+1+1) (by omega) (by omega)];and_intros;all_goals try first|rfl|omega|exact⟨by kernel_rfl⟩
   exact⟨⟨i+1,by omega,xX hx hy i2 (by simpa using a1)⟩,GS.to (by simp[]),by simp;omega⟩
 have e2:=zM i2 hi;have hiz :¬(i:Int)+1<l.length:=by omega
 simp -dsimp[hiz]
 as_aux_lemma=>
 have hcf:(l.any fun b=>decide (b.sd≠(l.headD tb0).sd)||decide (b.len≠(l.headD tb0).len))=((l.drop 1).any fun b=>decide (b.sd≠(l.headD tb0).sd)||decide (b.len≠(l.headD tb0).len)):=by
  cases l with
  | nil=>rfl
  | cons c m=>
    have:(decide (c.sd≠c.sd)||decide (c.len≠c.len))=false:=by simp
    exact(congrArg (· || _) this).trans (qF _)
 have hget:∀(i:Nat) (b:Tb),l[i]? = some b→l[0]? = some (l.headD tb0):=fun i b h=>by have hi:=(aA.1 h).1;obtain⟨c,m,e⟩:=List.exists_cons_of_length_pos (show 0<l.length by omega);rw[e];rfl
 have hck:tK l=bif (l.any fun b=>decide (b.sd≠(l.headD tb0).sd)||decide (b.len≠(l.headD tb0).len))then 8 else 0:=by simp only[tK,oG,cond_true,cond_false,decide_eq_false c1,e1,e2]
 generalize l.headD tb0=c at hcf hget hck
 refine bY.of [] (kb 0x4000004400110113d) (ι:={i:Nat // (l.any fun b=>decide (b.sd≠c.sd)||decide (b.len≠c.len))=(l.drop (i+1)).any fun b=>decide (b.sd≠c.sd)||decide (b.len≠c.len)}) (fun z=>[(.s 0,It.v (.d (.sl (ig l)))),(.s 2,It.v (.d (.int .i64 0))),(.s 5,It.v (.d (.int .i64 ((z.1:Int)+1))))]) (fun z=>l.length-z.1) ⟨0,hcf⟩ ?_ ?_
 ·exact GS.to (by simp)
 rintro⟨i,i2⟩;by_cases hi:i+1<l.length
 ·have hiz:(i:Int)+1<l.length:=by omega
  have hx:l[i+1]? = some l[i+1]:=ah hi;have h0:=hget _ _ hx;generalize l[i+1]=b at hx;have hx':=zU hx;have h0':=zU h0;by_cases a1:b.sd=c.sd
  ·by_cases a2:b.len=c.len
   ·simp -dsimp[hiz,hx',h0',eq_true a1,eq_true a2,kH,wrap_i64 (n:=(i:Int)+1+1) (by omega) (by omega)];and_intros;all_goals try first|rfl|omega|exact⟨by kernel_rfl⟩
    exact⟨⟨i+1,BK hx i2 (by simp[a1,a2])⟩,GS.to (by simp),by simp;omega⟩
   ·simp -dsimp[hiz,hx',h0',eq_true a1,eq_false a2,kH];and_intros;all_goals try first|rfl|omega|exact⟨by kernel_rfl⟩
    refine Fin.of ?_;have e:=AX (q:=fun b=>decide (b.sd≠c.sd)||decide (b.len≠c.len)) hx (by simp[a2]);rw[hck,e];simp
  ·simp -dsimp[hiz,hx',h0',eq_false a1,kH];and_intros;all_goals try first|rfl|omega|exact⟨by kernel_rfl⟩
   refine Fin.of ?_;have e:=AX (q:=fun b=>decide (b.sd≠c.sd)||decide (b.len≠c.len)) hx (by simp[a1]);rw[hck,e];simp
 ·have e3:=Fg i2 hi;have hiz :¬(i:Int)+1<l.length:=by omega
  simp -dsimp[hiz];refine Fin.of ?_;rw[hck,e3];simp
theorem akz(b:Tb)(hb:b.SmB):Contract Tryz.prog 172 [gQ b] [] (.d (.bool (decide (chk b≠0)))) [] []:=by refine aC Tryz.func172 rfl (fun E0=>?_);refine iK.sound (g:=.mk) (ow:=[]) (kp:=(kb 7)) ?_;rw[Tryz.ntmps172];simp -dsimp[gQ];refine aF.of (Xd b hb.rows hb.nx) [] 0 ?_;simp -dsimp[gQ];refine Fin.of ?_;simp
theorem amw(l:List Tb)(c:Tb)(h0:l[0]? = some c)(b:Tb):Contract Tryz.prog 174 [gQ b,.ptr (.x 0) 0] [.box ([D.sl (ig l)].map .d)] (.d (.bool (decide (b.sd≠c.sd)||decide (b.len≠c.len)))) [.box ([D.sl (ig l)].map .d)] []:=by
 have h0':=zU h0;have hl:0<l.length:=(aA.1 h0).1;refine aC Tryz.func174 rfl (fun E0=>?_);refine iK.sound (g:=.mk) (ow:=[]) (kp:=(kb 0xf)) ?_;rw[Tryz.ntmps174];by_cases a1:b.sd=c.sd
 ·simp -dsimp[gQ,h0',eq_true a1];and_intros;all_goals try first|rfl|omega|exact⟨by kernel_rfl⟩
  refine Fin.of ?_;simp
 ·simp -dsimp[gQ,h0',eq_false a1];and_intros;all_goals try first|rfl|omega|exact⟨by kernel_rfl⟩
  refine Fin.of ?_;simp[a1]
theorem IJ(l:List Tb)(hl:afX l):Contract Tryz.prog 98 [.d (.sl (ig l))] [] (.d (.int .i64 (tK l))) [] []:=by
 have hn:=hl.n;refine aC Tryz.func98 rfl (fun E0=>?_);refine iK.sound (g:=.mk) (ow:=[]) (kp:=(kb 0x88000711f)) ?_;rw[Tryz.ntmps98];by_cases c1:24<l.length
 ·have xB:(24:Int)<l.length:=by omega
  simp -dsimp[xB];refine Fin.of ?_;simp[tK,oG,c1]
 have xB :¬(24:Int)<l.length:=by omega
 simp -dsimp[xB];have hA:=U5 l (by omega) 172 (fun b=>decide (chk b≠0)) (fun b hb=>akz b (hl.t b hb)) (by simp);refine aF.of hA [] 0 ?_;rcases au (l.any fun b=>decide (chk b≠0))with e1|e1
 ·rw[e1];simp -dsimp[xB,ig];refine Fin.of ?_;simp only[tK,oG,cond_true,cond_false,decide_eq_false c1,e1];simp
 rw[e1];simp -dsimp[xB,ig]
 as_aux_lemma=>
 refine bY.of [] (kb 0x88000711f) (ι:={i:Nat // i≤l.length∧pV (fun x y=>decide (y.r≤x.r)) l=pV (fun (x y:Tb)=>decide (y.r≤x.r)) (l.drop (i-1))}) (fun z=>[(.s 0,It.v (.d (.sl (ig l)))),(.o 1,It.box [TV.d (.sl (ig l))]),(.s 1,It.v (.ptr (.o 1) 0)),(.s 2,It.v (.d (.int .i64 0))),(.s 12,It.v (.d (.int .i64 l.length))),(.s 13,It.v (.d (.int .i64 z.1)))]) (fun z=>l.length-z.1) ⟨0,by omega,rfl⟩ ?_ ?_
 ·exact GS.to (by simp[ig])
 rintro⟨i,i1,i2⟩;by_cases hi:i<l.length
 ·have hiz:(i:Int)<l.length:=by omega
  have hy:l[i]? = some l[i]:=ah hi;generalize l[i]=y at hy;have hy':=zU hy;by_cases h0:i=0
  ·have h0z :¬0<i:=by omega
   simp -dsimp[hiz,hy',h0z,wrap_i64 (n:=(i:Int)+1) (by omega) (by omega)];and_intros;all_goals try first|rfl|omega|exact⟨by kernel_rfl⟩
   exact⟨⟨i+1,by omega,by simp[h0]⟩,GS.to (by simp),by simp;omega⟩
  ·have h0z:0<i:=by omega
   have hx:l[i-1]? = some l[i-1]:=ah (by omega);have hi1:((i:Int)-1).toNat=i-1:=by omega
   have hy2:l[i-1+1]? = some y:=by rw[show i-1+1=i by omega];exact hy
   generalize l[i-1]=x at hx;have hx':=zU hx;by_cases a1:y.r≤x.r
   ·simp -dsimp[hiz,hx',hy',h0z,hi1,a1,wrap_i64 (n:=(i:Int)-1) (by omega) (by omega)];and_intros;all_goals try first|rfl|omega|exact⟨by kernel_rfl⟩
    refine Fin.of ?_;have e:=zN hx hy2 i2 (by simpa using a1);simp only[tK,oG,cond_true,cond_false,decide_eq_false c1,e1,e];simp
   ·simp -dsimp[hiz,hx',hy',h0z,hi1,a1,wrap_i64 (n:=(i:Int)-1) (by omega) (by omega),wrap_i64 (n:=(i:Int)+1) (by omega) (by omega)];and_intros;all_goals try first|rfl|omega|exact⟨by kernel_rfl⟩
    have e:=xX hx hy2 i2 (by simpa using a1);rw[show i-1+1=i by omega]at e
    exact⟨⟨i+1,by omega,e⟩,GS.to (by simp),by simp;omega⟩
 have e2:pV (fun x y=>decide (y.r≤x.r)) l=false:=zM i2 (by omega);have hiz :¬(i:Int)<l.length:=by omega
 simp -dsimp[hiz];have hget:∀b∈l,l[0]? = some (l.headD tb0):=fun b h=>by have hi:=jr h;obtain⟨c,m,e⟩:=List.exists_cons_of_length_pos hi;rw[e];rfl
 have hck:tK l=bif (l.any fun b=>decide (b.sd≠(l.headD tb0).sd)||decide (b.len≠(l.headD tb0).len))then 8 else 0:=by simp only[tK,oG,cond_true,cond_false,decide_eq_false c1,e1,e2]
 have hB:=U6 l (by omega) 174 [D.sl (ig l)] (fun b=>decide (b.sd≠(l.headD tb0).sd)||decide (b.len≠(l.headD tb0).len)) (fun b hb=>amw l _ (hget b hb) b) (by simp);rw[hck];generalize (l.any fun b=>decide (b.sd≠(l.headD tb0).sd)||decide (b.len≠(l.headD tb0).len))=B at hB⊢;have hT:l.map Tb.cs=ig l:=rfl;rw[hT]at hB
 refine aF.of hB [.o 1] 0 ?_;cases B
 ·simp -dsimp;refine Fin.of ?_;simp
 ·simp -dsimp;refine Fin.of ?_;simp
theorem agj(l:List Tb)(hl:UY l):Contract Tryz.prog 98 [.d (.sl (ig l))] [] (.d (.int .i64 (tK l))) [] []:=IJ l hl.big
theorem abt(l:List Tb)(hl:UY l)(r:Int):Contract Tryz.prog 100 [.d (.sl (ig l)),.d (.int .i64 r)] [] (rY (iq l r)) [] []:=by
 have hn:=hl.n;refine aC Tryz.func100 rfl (fun E0=>?_);refine iK.sound (g:=.mk) (ow:=[]) (kp:=(kb 0xf107db3)) ?_;rw[Tryz.ntmps100];simp -dsimp
 refine bY.of [] (kb 0xf107db3) (ι:={i:Nat // i≤l.length∧iq l r=iq (l.drop i) r}) (fun z=>[(.s 0,It.v (.d (.sl (ig l)))),(.s 1,It.v (.d (.int .i64 r))),(.o 4,It.box [TV.d (.int .i64 0),TV.d (.int .i64 0),TV.d (.int .i64 0),TV.c (Value.slice none 0 0)]),(.s 4,It.v (.ptr (.o 4) 0)),(.s 5,It.v (.d (.bool false))),(.s 11,It.v (.d (.sl (ig l)))),(.s 12,It.v (.d (.int .i64 l.length))),(.s 13,It.v (.d (.int .i64 z.1)))]) (fun z=>l.length-z.1) ⟨0,by omega,rfl⟩ ?_ ?_
 ·exact GS.to (by simp)
 rintro⟨i,i1,i2⟩;by_cases hi:i<l.length
 ·have hiz:(i:Int)<l.length:=by omega
  have hx:l[i]? = some l[i]:=ah hi;have hm:=hl.t l[i] (aB hi);generalize l[i]=b at hx hm;have hx':=zU hx;by_cases hr:b.r=r
  ·have e:iq l r=some b:=R_ hx i2 (by simpa using hr);have hrl:=hm.rows;simp -dsimp[hiz,hx',eq_true hr];and_intros;all_goals try first|rfl|omega|exact⟨by kernel_rfl⟩
   as_aux_lemma=>
   refine bY.of [] (kb 0xf107db3) (ι:={k:Nat // k≤b.rows.length}) (fun z=>[(.o 4,It.box [TV.d (.int .i64 0),TV.d (.int .i64 0),TV.d (.int .i64 0),TV.c (Value.slice none 0 0)]),(.s 4,It.v (.ptr (.o 4) 0)),(.s 5,It.v (.d (.bool false))),(.o 8,It.box [TV.d (.int .i64 b.r),TV.d (.int .i64 b.sd),TV.d (.int .i64 b.len),TV.bK 1000 z.1]),(.s 8,It.v (.ptr (.o 8) 0)),(.o 1000,.row 167 2 (dd (rws (b.rows.take z.1))) false),(.s 24,It.v (.d (.sl (rws b.rows)))),(.s 25,It.v (.d (.int .i64 b.rows.length))),(.s 26,It.v (.d (.int .i64 z.1)))]) (fun z=>b.rows.length-z.1) ⟨0,by omega⟩ ?_ ?_
   ·exact GS.AV (.o 8) 3 1000 (cs:=[TV.d (.int .i64 b.r),TV.d (.int .i64 b.sd),TV.d (.int .i64 b.len),TV.c (Value.slice none 0 0)]) 167 2 (by simp) (by simp) (by simp) (by simp) (by simp[rws])
   rintro⟨k,k1⟩;by_cases hk:k<b.rows.length
   ·have hkz:(k:Int)<b.rows.length:=by omega
    have hy:b.rows[k]? = some b.rows[k]:=ah hk;have ht:b.rows.take (k+1)=b.rows.take k++[b.rows[k]]:=by rw[aO,ah hk];rfl
    have hnx:=hm.nx b.rows[k] (aB hk);generalize b.rows[k]=y at hy ht hnx;have hy':=ajJ hy;simp -dsimp[hkz,hy'];and_intros;all_goals try first|rfl|omega|exact⟨by kernel_rfl⟩
    refine aF.of (acP y.nx (by omega)) [] 0 ?_;simp -dsimp[hkz,hy',ints,wrap_i64 (n:=(k:Int)+1) (by omega) (by omega)];and_intros;all_goals try first|rfl|omega|exact⟨by kernel_rfl⟩
    exact⟨⟨k+1,by omega⟩,GS.to (by simp[ht,ajI,ints]),by simp;omega⟩
   ·have hkz :¬(k:Int)<b.rows.length:=by omega
    obtain rfl:k=b.rows.length:=by omega
    simp -dsimp[hkz];refine Fin.box (.o 4) rfl ?_;simp -dsimp;refine Fin.of ?_;simp[rY,e,gQ,uz]
  ·have e:iq l r=iq (l.drop (i+1)) r:=Oo hx i2 (by simpa using hr);simp -dsimp[hiz,hx',eq_false hr,wrap_i64 (n:=(i:Int)+1) (by omega) (by omega)];and_intros;all_goals try first|rfl|omega|exact⟨by kernel_rfl⟩
   exact⟨⟨i+1,by omega,e⟩,GS.to (by simp[]),by simp;omega⟩
 ·have e:iq l r=none:=RZ i2 hi;have hiz :¬(i:Int)<l.length:=by omega
  simp -dsimp[hiz];refine Fin.box (.o 4) rfl ?_;simp -dsimp;refine Fin.of ?_;simp[rY,e,gQ,uz,tb0,rws]
theorem zG{b:Tb}(h:chk b=0):b.head∧b.rows.length≤256∧(∀x∈b.rows,x.nx.length≤24)∧∀x∈b.rows,¬(1<x.nx.length∧b.r∈x.nx):=by
 unfold chk at h;split at h
 ·simp at h
 rename_i h1;split at h
 ·simp at h
 split at h
 ·simp at h
 rename_i h2;split at h
 ·simp at h
 rename_i h3;split at h
 ·simp at h
 split at h
 ·simp at h
 rename_i h4;exact⟨Classical.byContradiction fun g=>h1 g,by omega,fun x hx=>Nat.le_of_not_lt fun g=>h3 ⟨x,hx,g⟩,fun x hx g=>h4 ⟨x,hx,g⟩⟩
theorem Fp{b:Tb}(h:chk b=0):b.Sm:=⟨by have:=(zG h).2.1;omega,fun x hx=>by have:=(zG h).2.2.1 x hx;omega⟩
theorem SC:∀(l:List Rt) (T:Tp),mW (VX l T).2=mW T
 | [],_=>rfl
 | x::l,T=>by simp[VX,SC l]
@[simp]theorem al9(T:Tp)(most:Int):mW (am3 T most).2=mW T:=by simp[am3,SC]
theorem aiE(l:List Tb)(e:Int):allT l e = .sZ [.d (.sl (ig l)),.d (.int .i64 e)]:=rfl
def ahC(l:List Rw)(k:Nat)(y:Rw)(id:Nat):List (List TV):=dd (rws (l.take k))++[TV.d (.int .i64 y.id),TV.bK id y.nx.length]::dd (rws (l.drop (k+1)))
@[simp]theorem anH(po:Nat→Prop)(l:List Rw)(k:Nat)(y:Rw)(id:Nat):m_ po (ahC l k y id)=po id:=by simp[ahC,TV.uw,TV.only]
@[simp]theorem ako(ν:List Pl)(rs:List (Nat×Nat))(T:Tp):Yf ν rs (iG T)=some (iG T):=by simp[iG,ints,Uc]
@[simp]theorem al6(ν:List Pl)(c:Nat)(l:List Rw)(k:Nat)(y:Rw)(id:Nat):(ahC l k y id).map (TV.backs ν c)=ahC l k y (c+id):=by simp[ahC]
theorem nO{l:List Tb}{r:Int}{b:Tb}(h:iq l r=some b):b∈l∧b.r=r:=⟨gG h,by simpa using qG h⟩
theorem GH{l:List Tb}(h:tK l=0):∀b∈l,chk b=0:=fun b hb=>by
 have:=wX (l:=_) (by simp) h
 simp_all
theorem alx{l:List Tb}{pr:List Int}(h:pr.Nodup)(hf:∀x∈pr,(iq l x).isSome):pr.length≤l.length:=by
 have:=MF (m:=l.map (·.r)) h fun x hx=>by
  obtain⟨b,hb⟩:=nM.1 (hf x hx);obtain⟨h1,h2⟩:=nO hb
  grind
 simp_all
theorem Ws{b:Tb}{id p:Int}(hc:chk b=0)(hp:0≤p∧p≤7):jo b id p=qc b id p:=by rw[jo,if_pos (qw.2 ⟨hc,hp,by omega⟩)]
end Go.Proofs
