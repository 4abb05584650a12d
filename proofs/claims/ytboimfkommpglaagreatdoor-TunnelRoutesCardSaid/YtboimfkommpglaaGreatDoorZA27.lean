/-
  What functions of the program compute, stated as contracts over plain data; the conditions of each stand in its own statement.
-/
import Derived.Test.YtboimfkommpglaaGreatDoorZA25
import Derived.Test.YtboimfkommpglaaGreatDoorZA26
import Derived.Test.YtboimfkommpglaaGreatDoorZA21
import Derived.Test.YtboimfkommpglaaGreatDoorZA20
import Derived.Test.YtboimfkommpglaaGreatDoorZA16
set_option linter.unusedSimpArgs false
set_option linter.unusedVariables false
set_option maxRecDepth 100000
set_option maxHeartbeats 16000000
namespace Go.Proofs
open Go Go.Tr
def bm(l:List Int):List (List Int×TV):=l.map fun n=>([n],TV.d (.bool true))
@[simp]theorem anL{po:Nat→Prop}{l:List Int}{c:Nat}{pd:Option (List Int)}{s:Option mJ}:It.only po (It.jX (bm l) c pd s):=by
 intro x hx;obtain⟨y,_,rfl⟩:=List.mem_map.1 hx;exact trivial
@[simp]theorem ajY(ν:List Pl)(rs:List (Nat×Nat))(l:List Int):GI ν rs (bm l)=some (bm l):=TJ ν rs (fun n=>[n]) (fun _=>D.bool true) l
@[simp]theorem ali(ν:List Pl)(b:Nat)(l:List Int):((bm l).map fun x=>(x.1,x.2.back ν b))=bm l:=by
 simp[bm,List.map_map,TV.back]
@[simp]theorem anU(a b:Nat)(l:List Int):((bm l).map fun x=>(x.1,x.2.ren a b))=bm l:=by
 simp[bm,List.map_map,TV.ren]
theorem Xc(g:ay)(to x:Int):∀L:IM,uq (vI ((XO g to L).map (·.1)) ((XO g to L).map (·.2))) [x]=if x∈L.map (·.1)then some (.d (ints (steps g (dist g to) x)))else none
 | []=>rfl
 | y::L=>by
   have ih:=Xc g to x L;have e:vI ((XO g to (y::L)).map (·.1)) ((XO g to (y::L)).map (·.2))=([y.1],TV.d (ints (steps g (dist g to) y.1)))::vI ((XO g to L).map (·.1)) ((XO g to L).map (·.2)):=rfl;rw[e,uq,ih];by_cases h:x=y.1
   ·subst h;simp
   ·have:(x∈(y::L).map (·.1))=(x∈L.map (·.1)):=by simp[h]
    simp only[List.cons.injEq,and_true,h,if_false,this]
theorem abU(g:ay)(to:Int):∀L:IM,DR 1 (vI ((XO g to L).map (·.1)) ((XO g to L).map (·.2))):=fun L y hy=>by
 simp only[vI,List.mem_map]at hy;obtain⟨x,hx,rfl⟩:=hy;obtain⟨h1,h2⟩:=List.of_mem_zip (show(x.1,x.2)∈_ from hx);simp only[XO,List.map_map,List.mem_map]at h1;obtain⟨r,_,e⟩:=h1;simp only;rw[←e];rfl
theorem aa9{g:ay}(hg:g.Ok){to x y:Int}(h:y∈steps g (dist g to) x):aY g.rs x=true∧aY g.rs y=true:=by
 obtain⟨_,_,_,c,hp,_⟩:=(lM hg).1 h;exact jA hg hp
theorem Ug{g:ay}(hg:g.Ok){to x:Int}(hto:aY g.rs to=true)(h:x∉(DM g to).map (·.1)):steps g (dist g to) x = []:=by
 refine List.eq_nil_iff_forall_not_mem.2 fun y hy=>h ?_
 obtain⟨h1,_⟩:=(lM hg).1 hy;have hb:=(rZ hg to x).2;exact List.mem_map.2 ⟨(x,dst g to x),(Oh hto).2 ⟨(aa9 hg hy).1,by omega,rfl⟩,rfl⟩
structure adY(g:ay)(s:List Int×List Int):Prop where
 nd:s.1.Nodup
 has:∀x∈s.1,aY g.rs x=true
 len:s.2.length≤s.1.length
theorem adY.le{g:ay}(hg:g.Ok){s:List Int×List Int}(h:adY g s):s.1.length≤24∧s.2.length≤24:=by
 have h1:=MN h.nd (b:=g.rs.map Rt.id) fun x hx=>dH.1 (h.has x hx)
 rw[List.length_map]at h1
 have:=hg.nr;have:=h.len;omega
theorem adY.ok{g:ay}{nx:Int→List Int}{cp:Int→Bool}{ns:List Int}{s s':List Int×List Int}(h:adY g s)(k:pq nx cp (fun n=>aY g.rs n=true) ns s s'):adY g s':=by
 refine⟨k.nd h.nd,fun x hx=>?_,by have:=k.len;have:=h.len;omega⟩;rcases k.via x hx with h1|h1
 ·exact h.has x h1
 ·exact h1
theorem Ui(g:ay)(h0:cZ g=0)(to r:Int)(hr:r∉(DM g to).map (·.1)):
  jT Tryz.prog 80 [.d (.int .i64 r),.ptr (.x 0) 0,.ptr (.x 1) 0,.ptr (.x 2) 0,.ptr (.x 3) 0] [.box [.d (Zp g to)],.box [.d (.int .i64 to)],It.box [TV.d (.sl (rts g.rs)),TV.d (.sl (dO g.ls))],.box [TV.clo 80 [TV.ptr (Pl.x 0) 0,TV.ptr (Pl.x 1) 0,TV.ptr (Pl.x 2) 0,TV.ptr (Pl.x 3) 0]]] []
   (.c (.slice none 0 0)) [.box [.d (Zp g to)],.box [.d (.int .i64 to)],It.box [TV.d (.sl (rts g.rs)),TV.d (.sl (dO g.ls))],.box [TV.clo 80 [TV.ptr (Pl.x 0) 0,TV.ptr (Pl.x 1) 0,TV.ptr (Pl.x 2) 0,TV.ptr (Pl.x 3) 0]]] []:=by
  obtain⟨ks,vs,hD,hget,hkl⟩:∃ks vs,Zp g to = .mp ks vs∧(∀x,uq (vI ks vs) [x]=if x∈(DM g to).map (·.1)then some (.d (ints (steps g (dist g to) x)))else none)∧DR 1 (vI ks vs):=
   ⟨_,_,by unfold Zp;rw[if_pos h0];rfl,fun x=>Xc g to x (DM g to),abU g to (DM g to)⟩
  simp only[hD];refine t_ Tryz.func80 rfl (fun E0=>?_);refine cO.sound (g:=.mk) (ow:=[4000026,32]) (kp:=(fun k=>k==0||k==1||k==2||k==3||k==4||k==6||k==8||k==9||k==12||k==13||k==14||k==15||k==20||k==25||k==30)) ?_;rw[Tryz.ntmps80];simp -dsimp[hget,hkl,hr];and_intros;all_goals try first|omega|exact⟨by kernel_rfl⟩|rfl
  refine aN.of [4000026,32] (fun k=>k==0||k==1||k==2||k==3||k==4||k==6||k==8||k==9||k==12||k==13||k==14||k==15||k==20||k==25||k==30) (ι:=Unit)
   (fun z=>[(Pl.s 0,It.v (.d (.int .i64 r))),(Pl.s 1,It.v (.ptr (Pl.x 0) 0)),(Pl.s 2,It.v (.ptr (Pl.x 1) 0)),(Pl.s 3,It.v (.ptr (Pl.x 2) 0)),(Pl.s 4,It.v (.ptr (Pl.x 3) 0)),
    (Pl.x 0,It.box [.d (.mp ks vs)]),(Pl.x 1,It.box [.d (.int .i64 to)]),(Pl.x 2,It.box [TV.d (.sl (rts g.rs)),TV.d (.sl (dO g.ls))]),(Pl.x 3,It.box [TV.clo 80 [TV.ptr (Pl.x 0) 0,TV.ptr (Pl.x 1) 0,TV.ptr (Pl.x 2) 0,TV.ptr (Pl.x 3) 0]]),(Pl.s 13,It.v (.d (.int .i64 0))),(Pl.s 14,It.v (.d (.int .i64 0)))])
   (fun z=>0) () ?_ ?_
  ·exact GS.to (by simp)
  ·rintro⟨⟩;simp -dsimp;refine Fin.of ?_;simp
theorem acj(g:ay)(h0:cZ g=0)(to:Int)(hto:aY g.rs to=true):∀(k:Nat) (r:Int),(dst g to r).toNat<k→
  jT Tryz.prog 80 [.d (.int .i64 r),.ptr (.x 0) 0,.ptr (.x 1) 0,.ptr (.x 2) 0,.ptr (.x 3) 0] [.box [.d (Zp g to)],.box [.d (.int .i64 to)],It.box [TV.d (.sl (rts g.rs)),TV.d (.sl (dO g.ls))],.box [TV.clo 80 [TV.ptr (Pl.x 0) 0,TV.ptr (Pl.x 1) 0,TV.ptr (Pl.x 2) 0,TV.ptr (Pl.x 3) 0]]] []
   (Xk (J5 (Hf g to) (dY g.rs) to k r)) [.box [.d (Zp g to)],.box [.d (.int .i64 to)],It.box [TV.d (.sl (rts g.rs)),TV.d (.sl (dO g.ls))],.box [TV.clo 80 [TV.ptr (Pl.x 0) 0,TV.ptr (Pl.x 1) 0,TV.ptr (Pl.x 2) 0,TV.ptr (Pl.x 3) 0]]] []
 | 0,_,h=>by omega
 | k+1,r,hk=>by
   have hg:=aU h0;have IH:=acj g h0 to hto k;obtain⟨ks,vs,hD,hget,hkl⟩:∃ks vs,Zp g to = .mp ks vs∧(∀x,uq (vI ks vs) [x]=if x∈(DM g to).map (·.1)then some (.d (ints (steps g (dist g to) x)))else none)∧DR 1 (vI ks vs):=
    ⟨_,_,by unfold Zp;rw[if_pos h0];rfl,fun x=>Xc g to x (DM g to),abU g to (DM g to)⟩
   have hok:aZ Tryz.prog 80=true:=by kernel_rfl
   simp only[hD]at IH⊢;obtain⟨l,hl⟩:∃l,l=steps g (dist g to) r:=⟨_,rfl⟩
   have hll:l.length≤24:=hl▸QA hg to r;have hlm:∀n∈l,(dst g to n).toNat<k∧aY g.rs n=true:=fun n hn=>Ei hg hk (by rw[hl]at hn;exact hn)
   obtain⟨go,hgo⟩:∃go,go=J5 (Hf g to) (dY g.rs) to k:=⟨_,rfl⟩
   have hS:J5 (Hf g to) (dY g.rs) to (k+1) r=BU (dY g.rs) to go l:=by rw[J5,hl,hgo];rfl
   have hgl:∀n∈l,(go n).length≤24:=fun n hn=>by
    by_cases hne:go n = []
    ·simp[hne]
    ·rw[hgo]at hne⊢
     exact(FD hg hto k n (hlm n hn).1 hne).len hg
   rw[hS];rw[←hgo]at IH
   by_cases hr:r∈(DM g to).map (·.1)
   case neg=>
    have hl0:l = []:=hl.trans (Ug hg hto hr);subst hl0;rw[BU,SY rfl,←hD];exact Ui g h0 to r hr
   obtain⟨w,hw⟩:∃w,w=BU (dY g.rs) to go l:=⟨_,rfl⟩
   rw[←hw];refine t_ Tryz.func80 rfl (fun E0=>?_);refine cO.sound (g:=.mk) (ow:=[4000026,32]) (kp:=(fun k=>k==0||k==1||k==2||k==3||k==4||k==6||k==8||k==9||k==12||k==13||k==14||k==15||k==20||k==25||k==30)) ?_;rw[Tryz.ntmps80];simp -dsimp[hget,hkl,hr,←hl,ints];and_intros;all_goals try first|omega|exact⟨by kernel_rfl⟩|rfl
   refine aN.of [4000026,32] (fun k=>k==0||k==1||k==2||k==3||k==4||k==6||k==8||k==9||k==12||k==13||k==14||k==15||k==20||k==25||k==30) (ι:={i:Nat // i≤l.length∧BU (dY g.rs) to go l=BU (dY g.rs) to go (l.drop i)})
    (fun z=>[(Pl.s 0,It.v (.d (.int .i64 r))),(Pl.s 1,It.v (.ptr (Pl.x 0) 0)),(Pl.s 2,It.v (.ptr (Pl.x 1) 0)),(Pl.s 3,It.v (.ptr (Pl.x 2) 0)),(Pl.s 4,It.v (.ptr (Pl.x 3) 0)),
     (Pl.x 0,It.box [.d (.mp ks vs)]),(Pl.x 1,It.box [.d (.int .i64 to)]),(Pl.x 2,It.box [TV.d (.sl (rts g.rs)),TV.d (.sl (dO g.ls))]),(Pl.x 3,It.box [TV.clo 80 [TV.ptr (Pl.x 0) 0,TV.ptr (Pl.x 1) 0,TV.ptr (Pl.x 2) 0,TV.ptr (Pl.x 3) 0]]),
     (Pl.s 12,It.v (.d (ints l))),(Pl.s 13,It.v (.d (.int .i64 l.length))),(Pl.s 14,It.v (.d (.int .i64 z.1)))])
    (fun z=>l.length-z.1) ⟨0,by omega,by simp⟩ ?_ ?_
   ·exact GS.to (by simp[ints])
   ·rintro⟨i,i1,i2⟩;by_cases hi:i<l.length
    ·have hiz:(i:Int)<l.length:=by omega
     have hx:l[i]? = some l[i]:=List.getElem?_eq_getElem hi;have hmem:=List.getElem_mem hi;have hd:=Nw (cp:=dY g.rs) (to:=to) (go:=go) hx;generalize l[i]=n at hx hmem hd;have hm:=hlm n hmem;have hgn:=hgl n hmem;have w1:IntKind.i64.wrap ((i:Int)+1)=(i:Int)+1:=wrap_i64 (by omega) (by omega);by_cases hn:n=to
     ·have vw:w = [to]:=hw.trans (i2.trans (by rw[hd,if_pos hn]));simp -dsimp[hiz,hx,ints,hn];and_intros;all_goals try first|rfl|omega|exact⟨by kernel_rfl⟩
      refine Fin.view 6 ?_;simp -dsimp;refine Fin.of ?_;simp[ints,Xk,vw]
     ·have hcz:w=if dY g.rs n=true then BU (dY g.rs) to go (l.drop (i+1))else if go n = []then BU (dY g.rs) to go (l.drop (i+1))else n::go n:=hw.trans (i2.trans (by rw[hd,if_neg hn]))
      simp -dsimp[hiz,hx,ints,hn];and_intros;all_goals try first|omega|exact⟨by kernel_rfl⟩|rfl
      refine ah.of (abd g hg.sm n) [] 0 ?_;rcases (Bool.eq_false_or_eq_true (dY g.rs n)).symm with hc|hc
      ·rw[if_neg (by simp[hc])]at hcz
       have aoZ:=IH n hm.1;simp -dsimp[h0,hc];try refine⟨rfl,?_⟩
       refine Ho.of3 aoZ [.x 0,.x 1,.x 2,.x 3] [] 1000 ?_;by_cases EZ:go n = []
       ·rw[SY EZ];simp -dsimp[hok,w1];and_intros;all_goals try first|rfl|omega|exact⟨by kernel_rfl⟩
        exact⟨⟨i+1,by omega,i2.trans (by rw[hd,if_neg hn,if_neg (by simp[hc]),if_pos EZ])⟩,GS.to (by simp[ints]),by simp;omega⟩
       ·rw[if_neg EZ]at hcz
        rw[ahq EZ];have hgp:0<(go n).length:=List.length_pos_iff.2 EZ;simp -dsimp[hok,w1,ints,hgp];and_intros;all_goals try first|omega|exact⟨by kernel_rfl⟩|exact iF 1 _ _ (fun _=>rfl)|rfl
        refine Fin.view 6 ?_;simp -dsimp;refine⟨by omega,?_⟩;refine Fin.of ?_;simp[ints,hcz,hc,Xk]
      ·simp -dsimp[h0,hc,w1];and_intros;all_goals try first|rfl|omega|exact⟨by kernel_rfl⟩
       exact⟨⟨i+1,by omega,i2.trans (by rw[hd,if_neg hn,if_pos hc])⟩,GS.to (by simp[ints]),by simp;omega⟩
    ·have hiz :¬(i:Int)<l.length:=by omega
     have hdn:l.drop i = []:=List.drop_eq_nil_of_le (by omega);have vw:w = []:=hw.trans (i2.trans (by rw[hdn,BU]));simp -dsimp[hiz];refine Fin.of ?_;simp[Xk,vw]
structure Fr where
 rt:List Int
 pk:Pk
structure Ox where
 loc:BitVec 64
 lost:BitVec 64
 g_:List (Int×Fr)
def zn:Ox:=⟨0#64,0#64,[]⟩
def jZ(g:ay)(r:Int)(c:Int×Pk):Option (Int×Fr):=match route g r c.1 with
 | []=>none
 | n::l=>some (n,⟨l,c.2⟩)
def wG(g:ay)(r:Int)(o:Ox)(c:Int×Pk):Ox:=match jZ g r c with
 | some x=>⟨o.loc,o.lost,o.g_++[x]⟩
 | none=>⟨o.loc,o.lost|||c.2.bits,o.g_⟩
def frB(f:Fr):Bool:=decide (f.rt.length≤24∧f.rt.Nodup∧∀n∈f.rt,1≤n∧n≤99)&&f.pk.ok
def qP(g:ay)(r n:Int)(l:List Int)(p:Pk):Ox:=
 if(price g.ls r n).isSome then ⟨0#64,0#64,[(n,⟨l,p⟩)]⟩else ⟨0#64,p.bits,[]⟩
def iZ(g:ay)(l:List Tb)(r:Int)(f:Fr):Ox×Int:=
 if cZ g≠0∨nR l≠0∨frB f=false then(zn,1)
 else if aY g.rs r=false then(zn,4)
 else match f.rt with
  | n::w=>(qP g r n w f.pk,0)
  | []=>match bH l r with
    | none=>(zn,4)
    | some b=>if(jC b f.pk).2≠0 then(zn,(jC b f.pk).2)else((jC b f.pk).1.g_.foldl (wG g r) ⟨(jC b f.pk).1.loc,(jC b f.pk).1.lost,[]⟩,0)
def iD(g:ay)(l:List Tb)(q:Int×Fr):Ox:=if(iZ g l q.1 q.2).2=0 then(iZ g l q.1 q.2).1 else ⟨0#64,q.2.pk.bits,[]⟩
def eP(g:ay)(l:List Tb)(q:Int×Fr):List (Int×Fr):=(iD g l q).g_
def Au(r:Int)(o:Ox)(p:Pk):List (Int×Pk):=nI r ⟨o.loc,o.lost,[]⟩ p
def jw(g:ay)(l:List Tb)(q:Int×Fr)(t:dQ):dQ:=
 ⟨t.dl++Au q.1 (iD g l q) q.2.pk,t.cr++(eP g l q).map (fun c=>(q.1,c.1,c.2.pk.bits)),if(iD g l q).lost=0#64 then t.ls else t.ls++[(q.1,(iD g l q).lost)]⟩
def pR(g:ay)(l:List Tb):Nat→List (Int×Fr)→dQ→dQ
 | 0,_,t=>t
 | _+1,[],t=>t
 | n+1,q::qs,t=>pR g l n (qs++eP g l q) (jw g l q t)
def PX(f:Fr):Nat:=pc f.pk.bits*((2*f.pk.ttl.toNat+1)*26)+f.rt.length+1
def tH(l:List (Int×Fr)):Nat:=(l.map fun c=>PX c.2).sum
theorem xI(a b:List (Int×Fr)):tH (a++b)=tH a+tH b:=by simp[tH]
theorem tq(q:Int×Fr)(b:List (Int×Fr)):tH (q::b)=PX q.2+tH b:=by simp[tH]
theorem xC:∀l:List (Int×Fr),l.length≤tH l
 | []=>by simp
 | q::l=>by
   have:=xC l;rw[tq,List.length_cons];unfold PX;omega
theorem wH(g:ay)(r:Int):∀(cs:List (Int×Pk)) (o:Ox),(cs.foldl (wG g r) o).loc=o.loc∧(cs.foldl (wG g r) o).g_=o.g_++cs.filterMap (jZ g r)∧
  (cs.foldl (wG g r) o).lost=(cs.filter fun c=>(jZ g r c).isNone).foldl (fun B c=>B|||c.2.bits) o.lost
 | [],o=>by simp
 | c::cs,o=>by
   obtain⟨h1,h2,h3⟩:=wH g r cs (wG g r o c);rw[List.foldl_cons];cases h:jZ g r c with
   | none=>simp only[wG,h]at h1 h2 h3⊢;refine⟨h1,?_,?_⟩<;>simp[h,h2,h3]
   | some x=>simp only[wG,h]at h1 h2 h3⊢;refine⟨h1,?_,?_⟩<;>simp[h,h2,h3]
theorem qU{g:ay}{r:Int}{c:Int×Pk}{x:Int×Fr}(h:jZ g r c=some x):x.2.pk=c.2∧route g r c.1=x.1::x.2.rt∧x.2.rt.length≤23:=by
 unfold jZ at h;have hl:=pK g r c.1;split at h
 ·simp at h
 ·rename_i n w e;simp only[Option.some.injEq]at h;subst h;rw[e]at hl
  simp at hl;exact⟨rfl,e,by simpa using hl⟩
theorem Zr(g:ay)(r:Int):∀cs:List (Int×Pk),tH (cs.filterMap (jZ g r))≤(cs.map fun c=>pc c.2.bits*((2*c.2.ttl.toNat+1)*26)+24).sum
 | []=>by simp[tH]
 | c::cs=>by
   have ih:=Zr g r cs;cases h:jZ g r c with
   | none=>simp[List.filterMap_cons,h];omega
   | some x=>
     obtain⟨h1,_,h3⟩:=qU h;simp only[List.filterMap_cons,h,tq,List.map_cons,List.sum_cons,PX,h1];omega
theorem af9:∀cs:List (Int×Pk),(cs.map fun c=>pc c.2.bits*((2*c.2.ttl.toNat+1)*26)+24).sum≤kZ cs*26
 | []=>by simp[kZ]
 | c::cs=>by
   have ih:=af9 cs;rw[qV];simp only[List.map_cons,List.sum_cons,wt];rw[←Nat.mul_assoc,Nat.add_mul,Nat.add_mul];omega
theorem yY(g:ay)(l:List Tb)(q:Int×Fr):tH (eP g l q)+1≤PX q.2:=by
 have h0:1≤PX q.2:=by unfold PX;omega
 have hz:tH ([]:List (Int×Fr))=0:=rfl;obtain⟨r,f,p⟩:=q;unfold eP iD;simp only;split
 ·unfold iZ;split
  ·simp only[zn,hz];omega
  split
  ·simp only[zn,hz];omega
  cases f with
  | cons n w=>
    simp only[qP];split
    ·simp only[tH,List.map_cons,List.map_nil,List.sum_cons,List.sum_nil,PX,List.length_cons];omega
    ·simp only[hz];omega
  | nil=>
    simp only;split
    ·simp only[zn,hz];omega
    ·rename_i b _;split
     ·simp only[zn,hz];omega
     ·rw[(wH g r _ _).2.1];simp only[List.nil_append];have h1:=Zr g r (jC b p).1.g_;have h2:=af9 (jC b p).1.g_;have h3:kZ (jC b p).1.g_≤pc p.bits*(2*p.ttl.toNat):=by
       unfold jC;split
       ·simp[kZ,iC]
       split
       ·simp[kZ,iC]
       split
       ·simp[kZ,iC]
       have h:=L_ b p 64 iC p.bits;have e0:kZ iC.g_=0:=rfl;simp only[iH];omega
      have h4:=Nat.mul_le_mul_right 26 h3;unfold PX;simp only[List.length_nil];have h5:pc p.bits*(2*p.ttl.toNat)*26≤pc p.bits*((2*p.ttl.toNat+1)*26):=by
       rw[Nat.mul_assoc];exact Nat.mul_le_mul_left _ (Nat.mul_le_mul_right _ (by omega))
      omega
 ·simp only[hz];omega
theorem lN(g:ay)(l:List Tb)(n:Nat)(t:dQ):pR g l n [] t=t:=by cases n<;>rfl
theorem aa1{g:ay}{f t:Int}(h:f∉(DM g t).map (·.1)):route g f t = []:=by
 unfold route;split
 ·rename_i hc;rw[J5,show Hf g t f = [] from Ug (aU hc.1) hc.2.2.1 h,BU]
 ·rfl
theorem AZ(g:ay)(hs:g.Sm)(f t:Int):Contract Tryz.prog 21 [aH g,.d (.int .i64 f),.d (.int .i64 t)] [] (.d (ints (route g f t))) [] []:=by
 have h1:=FQ g hs.r hs.l;have h3:=agm g hs t;simp only[aH]at h1 h3;by_cases h0:cZ g=0
 case neg=>
  have e:route g f t = []:=by unfold route;rw[if_neg (by simp[h0])]
  rw[e];refine aj Tryz.func21 rfl (fun E0=>?_);refine cO.sound (g:=.mk) (ow:=[4000021]) (kp:=(fun k=>k==0||k==1||k==2||k==3||k==5||k==6||k==7||k==8||k==16)) ?_;rw[Tryz.ntmps21];simp -dsimp[aH];refine ah.of h1 [] 0 ?_;simp -dsimp[h0];and_intros;all_goals try first|rfl|omega|exact⟨by kernel_rfl⟩
  refine Fin.view 6 ?_;simp -dsimp;refine Fin.of ?_;simp[ints]
 by_cases hne:f=t
 ·have e:route g f t = []:=by unfold route;rw[if_neg (by simp[hne])]
  rw[e];refine aj Tryz.func21 rfl (fun E0=>?_);refine cO.sound (g:=.mk) (ow:=[4000021]) (kp:=(fun k=>k==0||k==1||k==2||k==3||k==5||k==6||k==7||k==8||k==16)) ?_;rw[Tryz.ntmps21];simp -dsimp[aH];refine ah.of h1 [] 0 ?_;simp -dsimp[h0,hne];and_intros;all_goals try first|rfl|omega|exact⟨by kernel_rfl⟩
  refine Fin.view 6 ?_;simp -dsimp;refine Fin.of ?_;simp[ints]
 obtain⟨ks,vs,hD⟩:∃ks vs,Zp g t = .mp ks vs:=⟨_,_,by unfold Zp;rw[if_pos h0];rfl⟩
 have hw:jT Tryz.prog 80 [.d (.int .i64 f),.ptr (.x 0) 0,.ptr (.x 1) 0,.ptr (.x 2) 0,.ptr (.x 3) 0] [.box [.d (Zp g t)],.box [.d (.int .i64 t)],It.box [TV.d (.sl (rts g.rs)),TV.d (.sl (dO g.ls))],.box [TV.clo 80 [TV.ptr (Pl.x 0) 0,TV.ptr (Pl.x 1) 0,TV.ptr (Pl.x 2) 0,TV.ptr (Pl.x 3) 0]]] []
   (Xk (route g f t)) [.box [.d (Zp g t)],.box [.d (.int .i64 t)],It.box [TV.d (.sl (rts g.rs)),TV.d (.sl (dO g.ls))],.box [TV.clo 80 [TV.ptr (Pl.x 0) 0,TV.ptr (Pl.x 1) 0,TV.ptr (Pl.x 2) 0,TV.ptr (Pl.x 3) 0]]] []:=by
  by_cases hr:f∈(DM g t).map (·.1)
  ·have ht:aY g.rs t=true:=Classical.byContradiction fun hn=>by
    unfold DM at hr;rw[if_neg hn]at hr;simp at hr
   obtain⟨x,hx,rfl⟩:=List.mem_map.1 hr;have hf:=((Oh ht).1 hx).1;have e:route g x.1 t=J5 (Hf g t) (dY g.rs) t ((dst g t x.1).toNat+1) x.1:=by unfold route;rw[if_pos ⟨h0,hf,ht,hne⟩]
   rw[e];exact acj g h0 t ht _ _ (by omega)
  ·rw[aa1 hr,SY rfl];exact Ui g h0 t f hr
 rw[hD]at hw h3
 have hok:aZ Tryz.prog 80=true:=by kernel_rfl
 generalize route g f t=w at hw⊢;refine aj Tryz.func21 rfl (fun E0=>?_);refine cO.sound (g:=.mk) (ow:=[4000021]) (kp:=(fun k=>k==0||k==1||k==2||k==3||k==5||k==6||k==7||k==8||k==16)) ?_;rw[Tryz.ntmps21];simp -dsimp[aH];refine ah.of h1 [] 0 ?_;simp -dsimp[h0,hne];try refine⟨?_,⟨by kernel_rfl⟩⟩
 refine ah.of h3 [] 0 ?_;simp -dsimp;and_intros;all_goals try first|rfl|omega|exact⟨by kernel_rfl⟩
 refine Ho.of3 hw [.o 7,.o 5,.o 3,.o 8] [] 1000 ?_;cases w with
 | nil=>
   simp -dsimp[hok,Xk];and_intros;all_goals try first|rfl|omega|exact⟨by kernel_rfl⟩
   refine Fin.view 6 ?_;simp -dsimp;refine Fin.of ?_;simp[ints]
 | cons x w=>
   simp -dsimp[hok,Xk];and_intros;all_goals try first|rfl|omega|exact⟨by kernel_rfl⟩
   refine Fin.of ?_;simp[ints]
def n_(c:Int×Fr):List D:=.int .i64 c.1::ints c.2.rt::c.2.pk.cs
def JX(c:Int×Fr):TV:=.agg ((n_ c).map .d)
def vH(f:Fr):List D:=ints f.rt::f.pk.cs
def xK(f:Fr):TV:=.agg ((vH f).map .d)
def Uu:Int×Fr:=(0,⟨[],Bh⟩)
theorem NG{g:ay}{r:Int}{c:Int×Pk}(h:route g r c.1 = []):jZ g r c=none:=by unfold jZ;rw[h]
theorem JH{g:ay}{r:Int}{c:Int×Pk}{n:Int}{w:List Int}(h:route g r c.1=n::w):jZ g r c=some (n,⟨w,c.2⟩):=by unfold jZ;rw[h]
theorem NI(g:ay)(hs:g.Sm)(r:Int)(c:Int×Fr):Contract Tryz.prog 24 [aH g,.d (.int .i64 r),JX c] []
  (.rG [JX ((jZ g r (c.1,c.2.pk)).getD Uu),.d (.bool (jZ g r (c.1,c.2.pk)).isSome)]) [] []:=by
 have h1:=AZ g hs r c.1;have hl:=pK g r c.1;simp only[aH]at h1;cases hR:route g r c.1 with
 | nil=>
   rw[NG (c:=(c.1,c.2.pk)) hR];rw[hR]at h1
   refine aj Tryz.func24 rfl (fun E0=>?_);refine cO.sound (g:=.mk) (ow:=[]) (kp:=(fun k=>k==0||k==1||k==2||k==3||k==5||k==6||k==7||k==8||k==16)) ?_;rw[Tryz.ntmps24];simp -dsimp[aH,JX,n_,Pk.cs];refine ah.of h1 [] 0 ?_;simp -dsimp[ints];and_intros;all_goals try first|rfl|omega|exact⟨by kernel_rfl⟩
   refine Fin.box (.o 6) rfl ?_;simp -dsimp;refine Fin.of ?_;simp[JX,n_,Uu,Bh,Pk.cs,ints,bv]
 | cons n w=>
   rw[JH (c:=(c.1,c.2.pk)) hR];rw[hR]at h1 hl
   refine aj Tryz.func24 rfl (fun E0=>?_);refine cO.sound (g:=.mk) (ow:=[]) (kp:=(fun k=>k==0||k==1||k==2||k==3||k==5||k==6||k==7||k==8||k==16)) ?_;rw[Tryz.ntmps24];simp -dsimp[aH,JX,n_,Pk.cs];refine ah.of h1 [] 0 ?_;have hz :¬((w.length:Int)+1=0):=by omega
   have ht:List.take w.length (List.map (fun n=>[D.int .i64 n]) w)=List.map (fun n=>[D.int .i64 n]) w:=List.take_of_length_le (by simp);simp -dsimp[ints,hz];and_intros;all_goals try first|rfl|omega|exact⟨by kernel_rfl⟩
   refine Fin.box (.o 6) rfl ?_;simp -dsimp;refine Fin.of ?_;simp[JX,n_,Uu,Bh,Pk.cs,ints,bv,ht]
theorem AV(g:ay)(hs:g.Sm)(r:Int)(c:Int×Fr):Contract Tryz.prog 25 [aH g,.d (.int .i64 r),JX c] []
  (.rG [JX ((jZ g r (c.1,c.2.pk)).getD Uu),.d (.bool (jZ g r (c.1,c.2.pk)).isSome)]) [] []:=by
 have h1:=sS g hs r c.1;have hl:=pK g r c.1;simp only[aH]at h1;cases hR:route g r c.1 with
 | nil=>
   rw[NG (c:=(c.1,c.2.pk)) hR];rw[hR]at h1
   refine aj Tryz.func25 rfl (fun E0=>?_);refine cO.sound (g:=.mk) (ow:=[]) (kp:=(fun k=>k==0||k==1||k==2||k==3||k==5||k==6||k==7||k==8||k==16)) ?_;rw[Tryz.ntmps25];simp -dsimp[aH,JX,n_,Pk.cs];refine ah.of h1 [] 0 ?_;simp -dsimp[ints];and_intros;all_goals try first|rfl|omega|exact⟨by kernel_rfl⟩
   refine Fin.box (.o 6) rfl ?_;simp -dsimp;refine Fin.of ?_;simp[JX,n_,Uu,Bh,Pk.cs,ints,bv]
 | cons n w=>
   rw[JH (c:=(c.1,c.2.pk)) hR];rw[hR]at h1 hl
   refine aj Tryz.func25 rfl (fun E0=>?_);refine cO.sound (g:=.mk) (ow:=[]) (kp:=(fun k=>k==0||k==1||k==2||k==3||k==5||k==6||k==7||k==8||k==16)) ?_;rw[Tryz.ntmps25];simp -dsimp[aH,JX,n_,Pk.cs];refine ah.of h1 [] 0 ?_;have hz :¬((w.length:Int)+1=0):=by omega
   have ht:List.take w.length (List.map (fun n=>[D.int .i64 n]) w)=List.map (fun n=>[D.int .i64 n]) w:=List.take_of_length_le (by simp);simp -dsimp[ints,hz];and_intros;all_goals try first|rfl|omega|exact⟨by kernel_rfl⟩
   refine Fin.box (.o 6) rfl ?_;simp -dsimp;refine Fin.of ?_;simp[JX,n_,Uu,Bh,Pk.cs,ints,bv,ht]
def XM:Lk:=⟨0,0,0,0,0⟩
def Eu(lo hi:Int)(x:Lk):Bool:=decide (x.a<lo)||(decide (x.a=lo)&&decide (x.b<hi))
def P6(l:List Lk)(lo hi:Int):Nat:=bsI (fun a=>Eu lo hi (l.getD a XM)) l.length
theorem lbs{l:List Lk}(h:l.Pairwise gB)(lo hi:Int){x:Lk}(hx:x∈l)(ha:x.a=lo)(hb:x.b=hi):l[P6 l lo hi]? = some x:=by
 have hp:=List.pairwise_iff_getElem.1 h;have hr:∀a,(ha:a<l.length)→l.getD a XM=l[a]:=fun a ha=>by simp[ha]
 obtain⟨p,Vt⟩:∃p:Nat→Bool,p=fun a=>decide (a<l.length)&&Eu lo hi (l.getD a XM):=⟨_,rfl⟩
 have ae0:∀(q q':Nat→Bool) (n:Nat),(∀a,a<n→q a=q' a)→∀k i j,j≤n→bsGo q k i j=bsGo q' k i j:=by
  intro q q' n hq k
  induction k with
  | zero=>intro i j _;rfl
  | succ k ih=>
    intro i j hj;rw[bsGo,bsGo];split
    ·rw[hq ((i+j)/2) (by omega),ih _ _ hj,ih i ((i+j)/2) (by omega)]
    ·rfl
 have hbs:P6 l lo hi=bsGo p l.length 0 l.length:=ae0 _ _ l.length (fun a ha=>by rw[Vt];simp[ha]) _ _ _ (Nat.le_refl _);obtain⟨g1,g2,g3⟩:=bsGo_spec (p:=p) (fun a b hab hb=>by
  rw[Vt]at hb⊢
  simp only[Bool.and_eq_true,decide_eq_true_eq]at hb⊢;obtain⟨h1,h2⟩:=hb;rcases Nat.eq_or_lt_of_le hab with e|e
  ·subst e;exact⟨h1,h2⟩
  ·have:=hp a b (by omega) h1 e;rw[hr b h1]at h2
   refine⟨by omega,?_⟩;rw[hr a (by omega)];unfold Eu gB at *;simp only[Bool.or_eq_true,Bool.and_eq_true,decide_eq_true_eq]at h2⊢;omega) l.length 0 l.length (by omega) (by omega) (fun a ha=>by omega)
 rw[←hbs]at g1 g2 g3
 obtain⟨a,hal,rfl⟩:=List.mem_iff_getElem.1 hx;have key:a=P6 l lo hi:=by
  rcases Nat.lt_trichotomy a (P6 l lo hi)with c|c|c
  ·have:=g2 a c;rw[Vt]at this
   simp only[Bool.and_eq_true,decide_eq_true_eq]at this;rw[hr a hal]at this
   unfold Eu at this;simp only[Bool.or_eq_true,Bool.and_eq_true,decide_eq_true_eq]at this;omega
  ·exact c
  ·have h1:=g3 (P6 l lo hi) (Nat.le_refl _) (by omega);have hsl:P6 l lo hi<l.length:=by omega
   rw[Vt]at h1
   simp only[hsl,decide_true,Bool.true_and]at h1;rw[hr _ hsl]at h1
   have:=hp (P6 l lo hi) a hsl hal c;unfold Eu at h1;unfold gB at this;simp only[Bool.or_eq_false_iff,Bool.and_eq_false_iff,decide_eq_false_iff_not]at h1;omega
 rw[←key];exact List.getElem?_eq_getElem hal
def lsF(l:List Lk)(lo hi:Int):Bool:=decide (P6 l lo hi<l.length)&&(decide ((l.getD (P6 l lo hi) XM).a=lo)&&decide ((l.getD (P6 l lo hi) XM).b=hi))
theorem abV{l:List Lk}(h:l.Pairwise gB)(lo hi:Int):lsF l lo hi=true↔∃x∈l,x.a=lo∧x.b=hi:=by
 unfold lsF;simp only[Bool.and_eq_true,decide_eq_true_eq];constructor
 ·rintro⟨h1,h2,h3⟩;have e:l.getD (P6 l lo hi) XM=l[P6 l lo hi]:=by simp[h1]
  rw[e]at h2 h3
  exact⟨_,List.getElem_mem h1,h2,h3⟩
 ·rintro⟨x,hx,ha,hb⟩;have hg:=lbs h lo hi hx ha hb;obtain⟨h1,h2⟩:=List.getElem?_eq_some_iff.1 hg;have e:l.getD (P6 l lo hi) XM=x:=by rw[List.getD_eq_getElem?_getD,hg];rfl
  rw[e];exact⟨h1,ha,hb⟩
def La(g:ay)(f t:Int):Option Int:=
 if cZ g=0∧lsF g.ls (min f t) (max f t)=true then some (if f<t then(g.ls.getD (P6 g.ls (min f t) (max f t)) XM).ca else(g.ls.getD (P6 g.ls (min f t) (max f t)) XM).cb)else none
theorem agd{g:ay}(h0:cZ g=0)(f t:Int):La g f t=price g.ls f t:=by
 have hg:=aU h0;have hab:∀x∈g.ls,x.a<x.b:=fun x hx=>by
  have a:=List.any_eq_false.1 hg.ab x hx;simpa using a
 have hpw:=hg.Zu;unfold La;by_cases hF:lsF g.ls (min f t) (max f t)=true
 ·rw[if_pos ⟨h0,hF⟩];obtain⟨x,hx,ha,hb⟩:=(abV hpw _ _).1 hF;have e:g.ls.getD (P6 g.ls (min f t) (max f t)) XM=x:=by rw[List.getD_eq_getElem?_getD,lbs hpw _ _ hx ha hb];rfl
  rw[e];obtain⟨p1,p2⟩:=Di hpw hab hx;have hlt:=hab x hx;by_cases c:f<t
  ·rw[if_pos c];have h1:x.a=f:=by omega
   have h2:x.b=t:=by omega
   rw[h1,h2]at p1
   exact p1.symm
  ·rw[if_neg c];have h1:x.a=t:=by omega
   have h2:x.b=f:=by omega
   rw[h1,h2]at p2
   exact p2.symm
 ·rw[if_neg (fun a=>hF a.2)];cases hp:price g.ls f t with
  | none=>rfl
  | some c=>
    exfalso;obtain⟨x,hx,h⟩:=wU hp;have hlt:=hab x hx;exact hF ((abV hpw _ _).2 ⟨x,hx,by omega,by omega⟩)
theorem aiY(n lo hi:Int):Contract Tryz.prog 236 [.d (.int .i64 n),.d (.int .i64 lo),.d (.int .i64 hi)] [] (.d (.bool (inB n lo hi))) [] []:=by
 refine aj Tryz.func236 rfl (fun E0=>?_);refine cO.sound (g:=.mk) (ow:=[]) (kp:=(fun k=>k==0||k==1||k==2||k==6)) ?_;rw[Tryz.ntmps236];by_cases h:lo≤n
 ·simp -dsimp[h];refine Fin.of ?_;simp[inB,h]
 ·simp -dsimp[h];refine Fin.of ?_;simp[inB,h]
theorem adK(n:Int):Contract Tryz.prog 177 [.d (.int .i64 n)] [] (.d (.bool (inB n 1 99))) [] []:=by
 refine aj Tryz.func177 rfl (fun E0=>?_);refine cO.sound (g:=.mk) (ow:=[]) (kp:=(fun k=>k==0||k==2)) ?_;rw[Tryz.ntmps177];simp -dsimp;refine ah.of (aiY n 1 99) [] 0 ?_;simp -dsimp;and_intros;all_goals try first|rfl|omega|exact⟨by kernel_rfl⟩
 refine Fin.of ?_;simp
theorem alf(n:Int):Contract Tryz.prog 176 [.d (.int .i64 n)] [] (.d (.bool (!inB n 1 99))) [] []:=by
 refine aj Tryz.func176 rfl (fun E0=>?_);refine cO.sound (g:=.mk) (ow:=[]) (kp:=(fun k=>k==0||k==2)) ?_;rw[Tryz.ntmps176];simp -dsimp;refine ah.of (adK n) [] 0 ?_;simp -dsimp;and_intros;all_goals try first|rfl|omega|exact⟨by kernel_rfl⟩
 refine Fin.of ?_;simp
theorem P7{l:List Int}{i:Nat}(hi:i<l.length):(l.take (i+1)).Nodup↔(l.take i).Nodup∧l[i]∉l.take i:=by
 rw[List.take_add_one,List.getElem?_eq_getElem hi,Option.toList_some,List.nodup_append];simp only[List.nodup_cons,List.not_mem_nil,not_false_eq_true,List.nodup_nil,and_self,true_and,List.mem_singleton,forall_eq,ne_eq];constructor
 ·rintro⟨h1,h2⟩;exact⟨h1,fun h=>h2 _ h rfl⟩
 ·rintro⟨h1,h2⟩;exact⟨h1,fun a ha e=>h2 (e▸ha)⟩
theorem ahO(l:List Int)(hl:l.length≤1000000):Contract Tryz.prog 178 [.d (ints l)] [] (.d (.bool (decide (¬l.Nodup)))) [] []:=by
 obtain⟨w,hw⟩:∃w,w=decide (¬l.Nodup):=⟨_,rfl⟩
 rw[←hw];refine aj Tryz.func178 rfl (fun E0=>?_);refine cO.sound (g:=.mk) (ow:=[]) (kp:=(fun k=>k==0||k==2||k==3||k==4||k==5||k==6||k==7||k==8||k==16)) ?_;rw[Tryz.ntmps178];simp -dsimp[ints];refine aN.of [] (fun k=>k==0||k==2||k==3||k==4||k==5||k==6||k==7||k==8||k==16) (ι:={i:Nat // i≤l.length∧(l.take i).Nodup})
  (fun z=>[(Pl.s 0,It.v (.d (ints l))),(Pl.s 5,It.v (.d (ints l))),(Pl.s 6,It.v (.d (.int .i64 l.length))),(Pl.s 7,It.v (.d (.int .i64 z.1)))]) (fun z=>l.length-z.1) ⟨0,by omega,by simp⟩ ?_ ?_
 ·exact GS.to (by simp[ints])
 ·rintro⟨i,i1,i2⟩;by_cases hi:i<l.length
  ·have hiz:(i:Int)<l.length:=by omega
   have hx:l[i]? = some l[i]:=List.getElem?_eq_getElem hi;have hN:=P7 hi;have hc:=contains_c (l.take i) (by rw[List.length_take];omega) l[i];have vw:l[i]∈l.take i→w=true:=fun h=>by
    rw[hw,decide_eq_true_eq];intro hn;exact(hN.1 (hn.sublist (List.take_sublist _ _))).2 h
   generalize l[i]=x at hx hN hc vw;simp only[ints,List.map_take]at hc;have w1:IntKind.i64.wrap ((i:Int)+1)=(i:Int)+1:=wrap_i64 (by omega) (by omega);have i1z:(i:Int)≤l.length:=by omega
   simp -dsimp[ints,hiz,hx,i1z];and_intros;all_goals try first|omega|exact⟨by kernel_rfl⟩|rfl
   refine ah.of hc [] 0 ?_;by_cases hm:x∈l.take i
   ·simp -dsimp[mF,hm];refine Fin.of ?_;simp[vw hm]
   ·simp -dsimp[mF,hm,w1];exact⟨⟨i+1,by omega,hN.2 ⟨i2,hm⟩⟩,GS.to (by simp[ints]),by simp;omega⟩
  ·have hiz :¬(i:Int)<l.length:=by omega
   obtain rfl:i=l.length:=by omega
   rw[List.take_length]at i2
   simp -dsimp[ints,hiz];refine Fin.of ?_;simp[hw,i2]
theorem aac(f:Fr):frB f=(decide (f.rt.length≤24)&&(!f.rt.any (fun n=>!inB n 1 99)&&(!decide (¬f.rt.Nodup)&&f.pk.ok))):=by
 unfold frB;rw[Bool.eq_iff_iff];simp only[Bool.and_eq_true,decide_eq_true_eq,Bool.not_eq_true',List.any_eq_false,inB,Bool.not_eq_false',decide_eq_false_iff_not,Classical.not_not];constructor
 ·rintro⟨⟨a,b,c⟩,d⟩;exact⟨a,fun n hn=>by have:=c n hn;simpa using this,b,d⟩
 ·rintro⟨a,c,b,d⟩;exact⟨⟨a,b,fun n hn=>by have:=c n hn;simpa using this⟩,d⟩
theorem agq(f:Fr)(hl:f.rt.length≤1000000):Contract Tryz.prog 99 [xK f] [] (.d (.bool (frB f))) [] []:=by
 have h1:=Uw f.rt hl 176 (fun n=>!inB n 1 99) (fun x _=>alf x) (by kernel_rfl);have h2:=ahO f.rt hl;have h3:=FU f.pk;simp only[dX,Pk.cs,List.map]at h3;simp only[ints]at h2;rw[aac];generalize (f.rt.any fun n=>!inB n 1 99)=q1 at h1⊢;generalize decide (¬f.rt.Nodup)=q2 at h2⊢;refine aj Tryz.func99 rfl (fun E0=>?_)
 refine cO.sound (g:=.mk) (ow:=[]) (kp:=(fun k=>k==0||k==1||k==2)) ?_;rw[Tryz.ntmps99];by_cases c1:f.rt.length≤24
 case neg=>
  have yw :¬(f.rt.length:Int)≤24:=by omega
  simp -dsimp[xK,vH,ints,Pk.cs,yw];and_intros;all_goals try first|rfl|omega|exact⟨by kernel_rfl⟩
  refine Fin.of ?_;simp[c1]
 have yw:(f.rt.length:Int)≤24:=by omega
 simp -dsimp[xK,vH,ints,Pk.cs,yw];refine ah.of h1 [] 0 ?_;cases q1 with
 | true=>
   simp -dsimp[ints,Pk.cs];and_intros;all_goals try first|rfl|omega|exact⟨by kernel_rfl⟩
   refine Fin.of ?_;simp
 | false=>
   simp -dsimp[ints,Pk.cs];refine ah.of h2 [] 0 ?_;cases q2 with
   | true=>
     simp -dsimp[ints,Pk.cs];and_intros;all_goals try first|rfl|omega|exact⟨by kernel_rfl⟩
     refine Fin.of ?_;simp
   | false=>
     simp -dsimp[ints,Pk.cs];refine ah.of h3 [] 0 ?_;simp -dsimp[ints,Pk.cs];and_intros;all_goals try first|rfl|omega|exact⟨by kernel_rfl⟩
     refine Fin.of ?_;simp[c1]
theorem abx(x:Lk)(lo up:Int):(cmpL x ⟨lo,up,0,0,0⟩<0)=(Eu lo up x=true):=by
 apply propext
 show Uz (Hu x.a lo) (Hu x.b up)<0↔_
 unfold Uz Eu;by_cases c:x.a=lo
 ·rw[if_neg (by rw[ne_eq,DX];simp[c]),Qe];simp[c]
 ·rw[if_pos (by rw[ne_eq,DX];exact c),Qe];simp[c]
theorem cmpL_eq(x:Lk)(lo up:Int):(cmpL x ⟨lo,up,0,0,0⟩ = 0)=(x.a=lo∧x.b=up):=by
 apply propext
 show Uz (Hu x.a lo) (Hu x.b up)=0↔_
 unfold Uz;by_cases c:x.a=lo
 ·rw[if_neg (by rw[ne_eq,DX];simp[c]),DX];simp[c]
 ·rw[if_pos (by rw[ne_eq,DX];exact c),DX];simp[c]
theorem ZH(l:List Lk)(hl:l.length≤1000000)(lo up:Int):Contract Tryz.prog 180 [.d (.sl (dO l)),SH ⟨lo,up,0,0,0⟩,.clo 157 []] []
  (.rG [.d (.int .i64 (P6 l lo up)),.d (.bool (lsF l lo up))]) [] []:=by
 obtain⟨p,hp⟩:∃p:Nat→Bool,p=fun a=>Eu lo up (l.getD a XM):=⟨_,rfl⟩
 have hR:P6 l lo up=bsI p l.length:=by rw[hp];rfl
 have hok:aZ Tryz.prog 157=true:=by kernel_rfl
 unfold lsF;rw[hR];refine aj Tryz.func180 rfl (fun E0=>?_);refine cO.sound (g:=.mk) (ow:=[]) (kp:=(fun k=>k==0||k==1||k==2||k==4||k==6||k==7||k==8||k==9||k==10||k==11||k==17||k==31)) ?_;rw[Tryz.ntmps180];simp -dsimp[dO,SH,Lk.cs]
 refine aN.of [] (fun k=>k==0||k==1||k==2||k==4||k==6||k==7||k==8||k==9||k==10||k==11||k==17||k==31) (ι:={z:Nat×Nat // z.1≤z.2∧z.2≤l.length∧bsI p l.length=bsGo p (z.2-z.1) z.1 z.2})
  (fun z=>[(Pl.s 0,It.v (.d (.sl (dO l)))),(Pl.o 4,It.box [.d (.int .i64 lo),.d (.int .i64 up),.d (.int .i64 0),.d (.int .i64 0),.d (.int .i64 0)]),(Pl.s 4,It.v (.ptr (.o 4) 0)),(Pl.s 2,It.v (.clo 157 [])),(Pl.s 8,It.v (.d (.int .i64 l.length))),(Pl.s 9,It.v (.d (.int .i64 z.1.1))),(Pl.s 10,It.v (.d (.int .i64 z.1.2)))])
  (fun z=>z.1.2-z.1.1) ⟨(0,l.length),by omega,by omega,rfl⟩ ?_ ?_
 ·exact GS.to (by simp[dO])
 ·rintro⟨⟨i,j⟩,j1,j2,j3⟩;simp only at j1 j2 j3;by_cases hi:i<j
  ·have hiz:(i:Int)<j:=by omega
   rw[U6 hi]at j3
   have hm:(i+j)/2<l.length:=by omega
   have hx:l[(i+j)/2]? = some l[(i+j)/2]:=List.getElem?_eq_getElem hm;have hpm:p ((i+j)/2)=Eu lo up l[(i+j)/2]:=by rw[hp];simp[hm]
   generalize l[(i+j)/2]=x at hx hpm;have hx':=o8 hx;have hmd:=afp (i:=i) (j:=j) (by omega);have hij:i≤(i+j)/2∧(i+j)/2<j:=by omega
   generalize (i+j)/2=m at hx hpm hm hmd j3 hx' hij;have hmz:(m:Int)<l.length:=by omega
   have hb:=K_ x ⟨lo,up,0,0,0⟩;simp only[SH,Lk.cs,List.map]at hb;simp -dsimp[hiz,hmd,hx',Lk.cs,hmz];refine ah.of hb [] 0 ?_;rcases (Bool.eq_false_or_eq_true (Eu lo up x)).symm with hc|hc
   ·rw[hpm,hc,if_neg (by simp)]at j3
    simp -dsimp[hok,abx,hc];and_intros;all_goals try first|rfl|omega|exact⟨by kernel_rfl⟩
    exact⟨⟨(i,m),by omega,by omega,j3⟩,GS.to (by simp[dO]),by simp;omega⟩
   ·rw[hpm,hc,if_pos rfl]at j3
    simp -dsimp[hok,abx,hc,wrap_i64 (n:=(m:Int)+1) (by omega) (by omega)];and_intros;all_goals try first|rfl|omega|exact⟨by kernel_rfl⟩
    exact⟨⟨(m+1,j),by omega,by omega,j3⟩,GS.to (by simp[dO]),by simp;omega⟩
  ·have hiz :¬(i:Int)<j:=by omega
   obtain rfl:i=j:=by omega
   rw[XW hi]at j3
   by_cases hl2:i<l.length
   ·have hlz:(i:Int)<l.length:=by omega
    have hx:l[i]? = some l[i]:=List.getElem?_eq_getElem hl2;obtain⟨x,hxe⟩:∃x,l[i]=x:=⟨_,rfl⟩
    rw[hxe]at hx
    have hx':=o8 hx;have hb:=K_ x ⟨lo,up,0,0,0⟩;simp only[SH,Lk.cs,List.map]at hb;simp -dsimp[hiz,hlz,hx',Lk.cs,j3];refine ah.of hb [] 0 ?_;simp -dsimp[hok,cmpL_eq,hl2,hlz,j3];and_intros;all_goals try first|rfl|omega|exact⟨by kernel_rfl⟩
    refine Fin.of ?_;simp[cmpL_eq,hl2,j3,hxe,Bool.decide_and]
   ·have hlz :¬(i:Int)<l.length:=by omega
    simp -dsimp[hiz,hlz,j3];and_intros;all_goals try first|rfl|omega|exact⟨by kernel_rfl⟩
    refine Fin.of ?_;simp[hl2,j3]
theorem ai1{l:List Lk}{lo hi:Int}(h:lsF l lo hi=true):P6 l lo hi<l.length:=by
 unfold lsF at h;simp only[Bool.and_eq_true,decide_eq_true_eq]at h;exact h.1
theorem ahI(g:ay)(hs:g.Sm)(f t:Int):Contract Tryz.prog 104 [aH g,.d (.int .i64 f),.d (.int .i64 t)] [] (mO (La g f t)) [] []:=by
 have h1:=Ul g hs;have h2:=ZH g.ls hs.l (min f t) (max f t);simp only[aH]at h1;simp only[SH,Lk.cs,List.map]at h2;have hmn:aaH IntKind.i64 f t = .d (.int .i64 (min f t)):=by simp[aaH];omega
 have hmx:afn IntKind.i64 f t = .d (.int .i64 (max f t)):=by simp[afn];omega
 unfold La;by_cases h0:cZ g=0
 case neg=>
  rw[if_neg (by simp[h0])];refine aj Tryz.func104 rfl (fun E0=>?_);refine cO.sound (g:=.mk) (ow:=[]) (kp:=(fun k=>k==0||k==1||k==2||k==3||k==6||k==7||k==8||k==9||k==12||k==26||k==29)) ?_;rw[Tryz.ntmps104];simp -dsimp[aH];refine ah.of h1 [] 0 ?_;simp -dsimp[h0];and_intros;all_goals try first|rfl|omega|exact⟨by kernel_rfl⟩
  refine Fin.of ?_;simp[mO]
 rcases (Bool.eq_false_or_eq_true (lsF g.ls (min f t) (max f t))).symm with hF|hF
 ·rw[if_neg (by simp[hF])];refine aj Tryz.func104 rfl (fun E0=>?_);refine cO.sound (g:=.mk) (ow:=[]) (kp:=(fun k=>k==0||k==1||k==2||k==3||k==6||k==7||k==8||k==9||k==12||k==26||k==29)) ?_;rw[Tryz.ntmps104];simp -dsimp[aH];refine ah.of h1 [] 0 ?_;simp -dsimp[h0,hmn,hmx];and_intros;all_goals try first|omega|exact⟨by kernel_rfl⟩|rfl
  refine ah.of h2 [] 0 ?_;simp -dsimp[hF];and_intros;all_goals try first|rfl|omega|exact⟨by kernel_rfl⟩
  refine Fin.of ?_;simp[mO]
 ·have hlt:=ai1 hF;rw[if_pos ⟨h0,hF⟩];have hx:g.ls[P6 g.ls (min f t) (max f t)]? = some g.ls[P6 g.ls (min f t) (max f t)]:=List.getElem?_eq_getElem hlt;have hr:g.ls.getD (P6 g.ls (min f t) (max f t)) XM=g.ls[P6 g.ls (min f t) (max f t)]:=by simp[hlt]
  rw[hr];generalize g.ls[P6 g.ls (min f t) (max f t)]=x at hx;generalize P6 g.ls (min f t) (max f t)=m at hlt hx h2;have hx':=o8 hx;have hmz:(m:Int)<g.ls.length:=by omega
  by_cases c:f<t
  ·rw[if_pos c];refine aj Tryz.func104 rfl (fun E0=>?_);refine cO.sound (g:=.mk) (ow:=[]) (kp:=(fun k=>k==0||k==1||k==2||k==3||k==6||k==7||k==8||k==9||k==12||k==26||k==29)) ?_;rw[Tryz.ntmps104];simp -dsimp[aH];refine ah.of h1 [] 0 ?_;simp -dsimp[h0,hmn,hmx];and_intros;all_goals try first|omega|exact⟨by kernel_rfl⟩|rfl
   refine ah.of h2 [] 0 ?_;simp -dsimp[hF,c,hx',Lk.cs,hmz];and_intros;all_goals try first|rfl|omega|exact⟨by kernel_rfl⟩
   refine Fin.of ?_;simp[mO]
  ·rw[if_neg c];refine aj Tryz.func104 rfl (fun E0=>?_);refine cO.sound (g:=.mk) (ow:=[]) (kp:=(fun k=>k==0||k==1||k==2||k==3||k==6||k==7||k==8||k==9||k==12||k==26||k==29)) ?_;rw[Tryz.ntmps104];simp -dsimp[aH];refine ah.of h1 [] 0 ?_;simp -dsimp[h0,hmn,hmx];and_intros;all_goals try first|omega|exact⟨by kernel_rfl⟩|rfl
   refine ah.of h2 [] 0 ?_;simp -dsimp[hF,c,hx',Lk.cs,hmz];and_intros;all_goals try first|rfl|omega|exact⟨by kernel_rfl⟩
   refine Fin.of ?_;simp[mO]
end Go.Proofs
