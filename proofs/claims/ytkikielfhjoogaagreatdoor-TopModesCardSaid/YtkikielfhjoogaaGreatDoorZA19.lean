/-
  What functions of the program compute, stated as contracts over plain data; the conditions of each stand in its own statement.
-/
import Derived.Test.YtkikielfhjoogaaGreatDoorZA18
set_option linter.unusedVariables false
set_option linter.unusedSimpArgs false
set_option maxRecDepth 100000
set_option maxHeartbeats 2000000
namespace Go.Proofs
open Go Go.Tr
def zh(n m:Int):Bool:=decide (0≤n)&&decide (n≤m)
theorem adL(n m:Int):Contract Tryz.prog 77 [.d (.int .i64 n),.d (.int .i64 m)] [] (.d (.bool (zh n m))) [] []:=by
 refine ay Tryz.func77 rfl (fun E0=>?_);refine iC.sound (g:=.mk) (ow:=[]) (kp:=(kb 0x13)) ?_;rw[Tryz.ntmps77];by_cases h:0≤n
 ·simp -dsimp[h];refine Fin.of ?_;simp[zh,h]
 ·simp -dsimp[h];refine Fin.of ?_;simp[zh,h]
def wz(b:BitVec 64)(n:Int):Bool:=eP n&&decide (b &&& ~~~ EP n=0#64)
theorem ai_(n:Int):Contract Tryz.prog 132 [.d (.int .i64 n)] [] (.d (bv (EP n))) [] []:=by
 refine ay Tryz.func132 rfl (fun E0=>?_);refine iC.sound (g:=.mk) (ow:=[]) (kp:=(kb 0x25)) ?_;rw[Tryz.ntmps132];simp -dsimp[bv];refine aI.of (jY n) [] 0 ?_;cases h:eP n
 ·simp -dsimp[h,bv];refine Fin.of ?_;simp[EP,h]
 ·have hk:n=8∨n=16∨n=32∨n=64:=by simp[eP]at h;omega
  simp -dsimp[h,bv,wrap_i64 (n:=64-n) (by omega) (by omega)];refine⟨by omega,?_⟩;refine Fin.of ?_;simp[EP,h];rcases hk with rfl|rfl|rfl|rfl<;>decide
theorem ae3(b:BitVec 64)(n:Int):Contract Tryz.prog 78 [.d (bv b),.d (.int .i64 n)] [] (.d (.bool (wz b n))) [] []:=by
 refine ay Tryz.func78 rfl (fun E0=>?_);refine iC.sound (g:=.mk) (ow:=[]) (kp:=(kb 0x13)) ?_;rw[Tryz.ntmps78];simp -dsimp[bv];refine aI.of (jY n) [] 0 ?_;cases h:eP n
 ·simp -dsimp[h,bv];refine Fin.of ?_;simp[wz,h]
 ·simp -dsimp[h,bv];refine aI.of (ai_ n) [] 0 ?_;simp -dsimp[h,bv];refine Fin.of ?_;simp[wz,h]
def Pk.ok(p:Pk):Bool:=decide (1≤p.mode)&&(decide (p.mode≤3)&&(zh p.jd 7&&(zh p.set 31&&(wz p.bits p.len&&(zh p.ttl 63&&(zh p.ent 1023&&(zh p.ing 256&&(zh p.proto 7&&decide (p.pay.size≤64)))))))))
theorem wY(p:Pk):Contract Tryz.prog 26 [sH p] [] (.d (.bool p.ok)) [] []:=by
 refine ay Tryz.func26 rfl (fun E0=>?_);refine iC.sound (g:=.mk) (ow:=[]) (kp:=(kb 7)) ?_;rw[Tryz.ntmps26];by_cases c1:1≤p.mode
 rotate_left
 ·simp -dsimp[sH,Pk.cs,c1];try refine⟨?_,⟨by kernel_rfl⟩⟩
  refine Fin.of ?_;simp[Pk.ok,c1]
 by_cases c2:p.mode≤3
 rotate_left
 ·simp -dsimp[sH,Pk.cs,c1,c2];try refine⟨?_,⟨by kernel_rfl⟩⟩
  refine Fin.of ?_;simp[Pk.ok,c1,c2]
 simp -dsimp[sH,Pk.cs,c1,c2];refine aI.of (adL p.jd 7) [] 0 ?_;cases d0:zh p.jd 7
 ·simp -dsimp[sH,Pk.cs,c1,c2,d0];try refine⟨?_,⟨by kernel_rfl⟩⟩
  refine Fin.of ?_;simp[Pk.ok,c1,c2,d0]
 simp -dsimp[sH,Pk.cs,c1,c2,d0];refine aI.of (adL p.set 31) [] 0 ?_;cases d1:zh p.set 31
 ·simp -dsimp[sH,Pk.cs,c1,c2,d0,d1];try refine⟨?_,⟨by kernel_rfl⟩⟩
  refine Fin.of ?_;simp[Pk.ok,c1,c2,d0,d1]
 simp -dsimp[sH,Pk.cs,c1,c2,d0,d1];refine aI.of (ae3 p.bits p.len) [] 0 ?_;cases d2:wz p.bits p.len
 ·simp -dsimp[sH,Pk.cs,c1,c2,d0,d1,d2];try refine⟨?_,⟨by kernel_rfl⟩⟩
  refine Fin.of ?_;simp[Pk.ok,c1,c2,d0,d1,d2]
 simp -dsimp[sH,Pk.cs,c1,c2,d0,d1,d2];refine aI.of (adL p.ttl 63) [] 0 ?_;cases d3:zh p.ttl 63
 ·simp -dsimp[sH,Pk.cs,c1,c2,d0,d1,d2,d3];try refine⟨?_,⟨by kernel_rfl⟩⟩
  refine Fin.of ?_;simp[Pk.ok,c1,c2,d0,d1,d2,d3]
 simp -dsimp[sH,Pk.cs,c1,c2,d0,d1,d2,d3];refine aI.of (adL p.ent 1023) [] 0 ?_;cases d4:zh p.ent 1023
 ·simp -dsimp[sH,Pk.cs,c1,c2,d0,d1,d2,d3,d4];try refine⟨?_,⟨by kernel_rfl⟩⟩
  refine Fin.of ?_;simp[Pk.ok,c1,c2,d0,d1,d2,d3,d4]
 simp -dsimp[sH,Pk.cs,c1,c2,d0,d1,d2,d3,d4];refine aI.of (adL p.ing 256) [] 0 ?_;cases d5:zh p.ing 256
 ·simp -dsimp[sH,Pk.cs,c1,c2,d0,d1,d2,d3,d4,d5];try refine⟨?_,⟨by kernel_rfl⟩⟩
  refine Fin.of ?_;simp[Pk.ok,c1,c2,d0,d1,d2,d3,d4,d5]
 simp -dsimp[sH,Pk.cs,c1,c2,d0,d1,d2,d3,d4,d5];refine aI.of (adL p.proto 7) [] 0 ?_;cases d6:zh p.proto 7
 ·simp -dsimp[sH,Pk.cs,c1,c2,d0,d1,d2,d3,d4,d5,d6];try refine⟨?_,⟨by kernel_rfl⟩⟩
  refine Fin.of ?_;simp[Pk.ok,c1,c2,d0,d1,d2,d3,d4,d5,d6]
 simp -dsimp[sH,Pk.cs,c1,c2,d0,d1,d2,d3,d4,d5,d6];try refine⟨?_,⟨by kernel_rfl⟩⟩
 refine Fin.of ?_;simp[Pk.ok,c1,c2,d0,d1,d2,d3,d4,d5,d6];omega
structure Rt where
 id:Int
 cap:Bool
def Rt.cs(x:Rt):List D:=[.int .i64 x.id,.bool x.cap]
def rts(l:List Rt):List (List D):=l.map Rt.cs
@[simp]theorem aqY(l:List Rt):(rts l).length=l.length:=by simp[rts]
def alr(k:Nat):List Rt:=(List.range k).map fun (i:Nat)=>⟨(i:Int)+1,true⟩
@[simp]theorem an3(k:Nat):(alr k).length=k:=by simp[alr]
def OD(cost tree:Int)(skip:Bool)(b a:Int)(T:Tp)(l:List Lk):List Lk×Tp:=
 let c:=if decide (a=tree) && !skip then(true,T)else Rf T 3
 if c.1 then
  let x:=ji c.2 1 cost
  let y:=ji x.2 1 cost
  let z:=eG y.2 4
  (l++[⟨a,b,x.1,y.1,z.1⟩],z.2)
 else(l,c.2)
def SN(cost tree:Int)(skip:Bool)(b:Int):Nat→Int→Tp→List Lk→List Lk×Tp
 | 0,_,T,l=>(l,T)
 | n+1,a,T,l=>SN cost tree skip b n (a+1) (OD cost tree skip b a T l).2 (OD cost tree skip b a T l).1
def agc(cost b:Int)(T:Tp)(l:List Lk):List Lk×Tp:=
 let t:=ji T 1 (b-1)
 let s:=Rf t.2 9
 SN cost t.1 s.1 b (b-1).toNat 1 s.2 l
def abQ(cost:Int):Nat→Int→Tp→List Lk→List Lk×Tp
 | 0,_,T,l=>(l,T)
 | n+1,b,T,l=>abQ cost n (b+1) (agc cost b T l).2 (agc cost b T l).1
structure aX where
 rs:List Rt
 ls:List Lk
def eU(g:aX):TV:=.agg [.d (.sl (rts g.rs)),.d (.sl (nS g.ls))]
def als(T:Tp)(most:Int):aX×Tp:=
 let R:=ji T 1 most
 let C:=m_ R.2 [1,2,2,5]
 let X:=abQ C.1 (R.1+1-2).toNat 2 C.2 []
 (⟨alr R.1.toNat,aoU X.1 []⟩,X.2)
theorem agd(cost tree:Int)(skip:Bool)(b a:Int)(T:Tp)(l:List Lk):jh (OD cost tree skip b a T l).2=jh T:=by unfold OD;simp only;split<;>split<;>simp
structure Ed where
 r:Int
 id:Int
def Ed.cs(x:Ed):List D:=[.int .i64 x.r,.int .i64 x.id]
def zA(l:List Ed):List (List D):=l.map Ed.cs
structure Pn where
 jd:Int
 len:Int
 es:List Ed
def su(p:Pn):TV:=.agg [.d (.int .i64 p.jd),.d (.int .i64 p.len),.d (.sl (zA p.es))]
@[simp]theorem aph(l:List Ed):(zA l).length=l.length:=by simp[zA]
theorem MB{l:List Ed}{i:Nat}{x:Ed}(h:l[i]? = some x):(zA l)[i]? = some x.cs:=by simp[zA,h]
theorem W9{l:List Ed}{i:Nat}{x:Ed}(h:l[i]? = some x)(hi:i<(zA l).length):(zA l)[i]=x.cs:=by
 have:=MB h;rw[aj hi]at this
 simpa using this
theorem uZ{l:List Rt}{i:Nat}{x:Rt}(h:l[i]? = some x):(rts l)[i]? = some x.cs:=by simp[rts,h]
theorem OA:∀(n i:Nat) (T:Tp) (l:List Int),jh (D6 n i T l).2=jh T
 | 0,_,_,_=>rfl
 | n+1,i,T,l=>by rw[D6,OA];simp
@[simp]theorem amM(T:Tp)(n:Int):jh (ZW T n).2=jh T:=OA _ _ _ _
def inB(n lo hi:Int):Bool:=decide (lo≤n)&&decide (n≤hi)
theorem JM(n lo hi:Int):Contract Tryz.prog 29 [.d (.int .i64 n),.d (.int .i64 lo),.d (.int .i64 hi)] [] (.d (.bool (inB n lo hi))) [] []:=by
 refine ay Tryz.func29 rfl (fun E0=>?_);refine iC.sound (g:=.mk) (ow:=[]) (kp:=(kb 0x47)) ?_;rw[Tryz.ntmps29];by_cases h:lo≤n
 ·simp -dsimp[h];refine Fin.of ?_;simp[inB,h]
 ·simp -dsimp[h];refine Fin.of ?_;simp[inB,h]
def gid(es:List Ed)(i:Nat):Int:=(es.getD i ⟨0,0⟩).id
def OG(es:List Ed)(i:Nat):Int:=(es.getD i ⟨0,0⟩).r
def yO(p:Pn):Bool:=inB p.jd 0 7&&((eP p.len||(decide (p.len=0)&&decide (p.es.length=0)))&&decide (p.es.length≤24))
def edB(es:List Ed)(i:Nat):Bool:=inB (gid es i) 1 256&&(inB (OG es i) 1 99&&(decide (i=0)||decide (gid es (i-1)<gid es i)))
open Classical in
noncomputable def oJ(p:Pn):Bool:=decide (yO p=true∧(∀i,i<p.es.length→edB p.es i=true)∧∀i j,j<i→i<p.es.length→OG p.es i≠OG p.es j)
theorem A8{p:Pn}(h:yO p=false):oJ p=false:=by simp only[oJ,decide_eq_false_iff_not];rintro⟨h1,_⟩;rw[h]at h1;simp at h1
theorem PY{p:Pn}{i:Nat}(hi:i<p.es.length)(h:edB p.es i=false):oJ p=false:=by simp only[oJ,decide_eq_false_iff_not];rintro⟨_,h1,_⟩;have:=h1 i hi;rw[h]at this;simp at this
theorem ahw{p:Pn}{i j:Nat}(hj:j<i)(hi:i<p.es.length)(h:OG p.es i=OG p.es j):oJ p=false:=by simp only[oJ,decide_eq_false_iff_not];rintro⟨_,_,h1⟩;exact h1 i j hj hi h
theorem PZ{p:Pn}(h:yO p=true)(h1:∀i,i<p.es.length→edB p.es i=true)(h2:∀i j,j<i→i<p.es.length→OG p.es i≠OG p.es j):oJ p=true:=by simp only[oJ,decide_eq_true_eq];exact⟨h,h1,h2⟩
def uX(id len:Int):Int:=if eP len&&inB id 1 256 then(id-1)/len else 0
def tV(id len:Int):Int:=if eP len&&inB id 1 256 then(id-1)%len else 0
theorem plB(id len:Int):0≤uX id len∧uX id len≤255∧0≤tV id len∧tV id len<64:=by
 unfold uX tV;split
 ·rename_i h;simp[eP,inB]at h
  obtain⟨((h|h)|h)|h,h1,h2⟩:=h<;>subst h<;>omega
 ·omega
def Dn(id len:Int):TV:=.qh [.d (.int .i64 (uX id len)),.d (.int .i64 (tV id len)),.d (.bool (eP len&&inB id 1 256))]
theorem PX(id len:Int):Contract Tryz.prog 76 [.d (.int .i64 id),.d (.int .i64 len)] [] (Dn id len) [] []:=by
 refine ay Tryz.func76 rfl (fun E0=>?_);refine iC.sound (g:=.mk) (ow:=[]) (kp:=(kb 0x4073)) ?_;rw[Tryz.ntmps76];simp -dsimp;refine aI.of (jY len) [] 0 ?_;rcases (aA (eP len)).symm with a1|a1
 ·simp -dsimp[a1];refine Fin.of ?_;simp[Dn,uX,tV,a1]
 ·have hl:len=8∨len=16∨len=32∨len=64:=by simp[eP]at a1;omega
  simp -dsimp[a1];refine aI.of (JM id 1 256) [] 0 ?_;rcases (aA (inB id 1 256)).symm with a2|a2
  ·simp -dsimp[a1,a2];refine Fin.of ?_;simp[Dn,uX,tV,a1,a2]
  ·have hi:1≤id∧id≤256:=by simpa[inB]using a2
   have e1:(id-1).tdiv len=(id-1)/len:=Int.tdiv_eq_ediv_of_nonneg (by omega);have e2:(id-1).tmod len=(id-1)%len:=nG (by omega);have d1:0≤(id-1)/len∧(id-1)/len≤255:=by rcases hl with rfl|rfl|rfl|rfl<;>omega
   simp -dsimp[a1,a2,e1,e2,wrap_i64 (n:=id-1) (by omega) (by omega),wrap_i64 (n:=(id-1)/len) (by omega) (by omega)];refine⟨by omega,?_,⟨by kernel_rfl⟩⟩;refine Fin.of ?_;simp[Dn,uX,tV,a1,a2]
structure Sb where
 set:Int
 bits:BitVec 64
def Sb.cs(x:Sb):List D:=[.int .i64 x.set,bv x.bits]
def Un(l:List Sb):List (List D):=l.map Sb.cs
@[simp]theorem aq0(l:List Sb):(Un l).length=l.length:=by simp[Un]
theorem aj2{l:List Sb}{i:Nat}{x:Sb}(h:l[i]? = some x):(Un l)[i]? = some x.cs:=by simp[Un,h]
theorem ah0{l:List Sb}{i:Nat}{x:Sb}(h:l[i]? = some x)(hi:i<(Un l).length):(Un l)[i]=x.cs:=by
 have:=aj2 h;rw[aj hi]at this
 simpa using this
def Lh(l:List Sb)(s:Int)(b:BitVec 64):List Sb:=
 match l.getLast? with
 | none=>[⟨s,b⟩]
 | some x=>if x.set=s then l.dropLast++[⟨x.set,x.bits|||b⟩]else l++[⟨s,b⟩]
theorem Um(s:Int)(b:BitVec 64):Lh [] s b = [⟨s,b⟩]:=rfl
theorem Qn(pre:List Sb)(y:Sb)(b:BitVec 64):Lh (pre++[y]) y.set b=pre++[⟨y.set,y.bits|||b⟩]:=by simp[Lh]
theorem Ul(pre:List Sb)(y:Sb){s:Int}(h:y.set≠s)(b:BitVec 64):Lh (pre++[y]) s b=pre++[y]++[⟨s,b⟩]:=by simp[Lh,h]
theorem aeO(l:List Sb)(s:Int)(b:BitVec 64):(Lh l s b).length≤l.length+1:=by
 rcases List.eq_nil_or_concat l with rfl|⟨pre,y,rfl⟩
 ·simp[Um]
 ·rw[List.concat_eq_append];by_cases h:y.set=s
  ·subst h;rw[Qn];simp
  ·rw[Ul _ _ h];simp
def z_(len:Int):List Int→List Sb→List Sb
 | [],l=>l
 | id::ids,l=>z_ len ids (Lh l (uX id len) (Jl (tV id len)))
open Classical in
noncomputable def Zf(l:List Int):Bool:=decide (∀i,0<i→i<l.length→l.getD (i-1) 0<l.getD i 0)
def FN(p:Pn)(id:Int):Bool:=(p.es.find? (fun e=>decide (e.id=id))).isSome
noncomputable def xI(p:Pn)(ids:List Int):List Sb×Int:=
 if oJ p=true then
  if Zf ids=true then
   if ids.all (FN p)=true then(z_ p.len ids [],0)else([],4)
  else([],25)
 else([],1)
def Qp(r:List Sb×Int):TV:=.qh [.d (.sl (Un r.1)),.d (.int .i64 r.2)]
def uS(l:List Int):List (List D):=l.map fun n=>[.int .i64 n]
@[simp]theorem akR(l:List Int):(uS l).length=l.length:=by simp[uS]
theorem XI{l:List Int}{i:Nat}{x:Int}(h:l[i]? = some x):(uS l)[i]? = some [.int .i64 x]:=by simp[uS,h]
theorem Ve{l:List Int}{i:Nat}{x:Int}(h:l[i]? = some x)(hi:i<(uS l).length):(uS l)[i] = [.int .i64 x]:=by
 have:=XI h;rw[aj hi]at this
 simpa using this
def BK{α:Type}(q:α→Bool)(l:List α):Int:=match l.findIdx? q with|some i=>i|none=>-1
theorem wB{α:Type}(q:α→Bool)(l:List α):decide (0≤BK q l)=l.any q:=by
 unfold BK;cases h:l.findIdx? q with
 | none=>have:=kG.1 h;simp;intro x hx;exact this x hx
 | some i=>have:=iV.1 h;obtain⟨hi,h1,_⟩:=this;simp;exact⟨_,aJ hi,h1⟩
theorem xq{α:Type}{q:α→Bool}{l:List α}{i:Nat}{x:α}(hx:l[i]? = some x)(hq:q x=true)(h:∀a,a<i→∀y,l[a]? = some y→q y=false):BK q l=i:=by
 unfold BK;obtain⟨hi,rfl⟩:=aB.1 hx;have:l.findIdx? q=some i:=by rw[iV];exact⟨hi,hq,fun j hj=>by have:=h j hj _ (aj (by omega));simp[this]⟩
 rw[this]
theorem yc{α:Type}{q:α→Bool}{l:List α}(h:∀a,a<l.length→∀y,l[a]? = some y→q y=false):BK q l = -1:=by
 unfold BK;have:l.findIdx? q=none:=by rw[kG];intro x hx;obtain⟨i,hi⟩:=bU hx;exact h i (aB.1 hi).1 x hi
 rw[this]
theorem adQ(l:List Int)(hl:l.length≤1000000)(f:FuncId)(ds:List D)(q:Int→Bool)(hf:∀x,Contract Tryz.prog f [.d (.int .i64 x),.ptr (.x 0) 0] [.box (ds.map .d)] (.d (.bool (q x))) [.box (ds.map .d)] [])(hok:dB Tryz.prog f=true):
  Contract Tryz.prog 130 [.d (.sl (uS l)),.clo f [.ptr (.x 0) 0]] [.box (ds.map .d)] (.d (.int .i64 (BK q l))) [.box (ds.map .d)] []:=by
 refine ay Tryz.func130 rfl (fun E0=>?_);refine iC.sound (g:=.mk) (ow:=[]) (kp:=(kb 0x103b3)) ?_;rw[Tryz.ntmps130];simp -dsimp;refine dD.of [] (kb 0x103b3) (ι:={i:Nat // i≤l.length∧∀a,a<i→∀x,l[a]? = some x→q x=false})
  (fun z=>[(.s 0,It.v (.d (.sl (uS l)))),(.s 1,It.v (.clo f [TV.ptr (.x 0) 0])),(.x 0,It.box (List.map TV.d ds)),(.s 4,It.v (.d (.int .i64 0))),(.s 7,It.v (.d (.int .i64 l.length))),(.s 8,It.v (.d (.int .i64 z.1)))]) (fun z=>l.length-z.1) ⟨0,by omega,fun a h=>by omega⟩ ?_ ?_
 ·exact GS.to (by simp)
 ·rintro⟨i,i1,i2⟩;by_cases hi:i<l.length
  ·obtain⟨x,hx⟩:∃x,l[i]? = some x:=⟨l[i],aj hi⟩
   simp -dsimp[hi,Ve hx,wrap_i64 (n:=(i:Int)+1) (by omega) (by omega)];refine aI.of (hf x) [.x 0] 0 ?_;rcases (aA (q x)).symm with h|h
   ·simp -dsimp[h,hok,wrap_i64 (n:=(i:Int)+1) (by omega) (by omega)];exact⟨⟨i+1,by omega,fun a ha y hy=>by
     by_cases e:a=i
     ·subst e;rw[hx]at hy;simp only[ah]at hy;subst hy;exact h
     ·exact i2 a (by omega) y hy⟩,GS.to (by simp),by simp;omega⟩
   ·simp -dsimp[h,hok];refine Fin.of ?_;simp[xq hx h i2]
  ·simp -dsimp[hi];refine Fin.of ?_;simp;exact(yc fun a ha=>i2 a (by omega)).symm
theorem UO(l:List Int)(hl:l.length≤1000000)(f:FuncId)(ds:List D)(q:Int→Bool)(hf:∀x,Contract Tryz.prog f [.d (.int .i64 x),.ptr (.x 0) 0] [.box (ds.map .d)] (.d (.bool (q x))) [.box (ds.map .d)] [])(hok:dB Tryz.prog f=true):
  Contract Tryz.prog 73 [.d (.sl (uS l)),.clo f [.ptr (.x 0) 0]] [.box (ds.map .d)] (.d (.bool (l.any q))) [.box (ds.map .d)] []:=by
 refine ay Tryz.func73 rfl (fun E0=>?_);refine iC.sound (g:=.mk) (ow:=[]) (kp:=(kb 0x13)) ?_;rw[Tryz.ntmps73];simp -dsimp;refine aI.of (adQ l hl f ds q hf hok) [.x 0] 0 ?_;simp -dsimp;refine Fin.of ?_;simp[wB]
theorem afO(l:List Ed)(i:Nat):(zA l).take i=zA (l.take i):=by simp[zA]
theorem Tn(p:Pn)(id:Int):(p.es.any fun y=>decide (y.id=id))=FN p id:=by rw[iE];simp[FN,List.find?_isSome]
theorem aj_{k:Int}(h:0≤k∧k<64):(1#64<<<k.toNat)=Jl k:=by
 rw[Jl,if_neg (by omega)];have:IntKind.u64.wrap k=k:=by rw[ED];omega
 rw[this]
def Pk.with(q:Pk)(p:Pn)(s:Sb):Pk:=⟨q.mode,p.jd,s.set,p.len,q.ttl,q.ent,q.ing,q.proto,s.bits,q.pay⟩
def Iy(q:Pk)(p:Pn):List Sb→List Pk→List Pk×Int
 | [],out=>(out,0)
 | s::l,out=>if(q.with p s).ok=true then Iy q p l (out++[q.with p s])else([],1)
noncomputable def acz(p:Pn)(ids:List Int)(q:Pk):List Pk×Int:=
 if(xI p ids).2=0 then Iy q p (xI p ids).1 []else([],(xI p ids).2)
def Yg(r:List Pk×Int):TV:=.qh [.d (.sl (pks r.1)),.d (.int .i64 r.2)]
theorem Uk(len:Int):∀(ids:List Int) (l:List Sb),(z_ len ids l).length≤l.length+ids.length
 | [],l=>by simp[z_]
 | id::ids,l=>by have h1:=Uk len ids (Lh l (uX id len) (Jl (tV id len)));have h2:=aeO l (uX id len) (Jl (tV id len));simp only[z_,aH];omega
theorem aeV(p:Pn)(ids:List Int):(xI p ids).1.length≤ids.length:=by
 unfold xI;split
 ·split
  ·split
   ·have:=Uk p.len ids [];simpa using this
   ·simp
  ·simp
 ·simp
def e0:ByteArray:=⟨#[]⟩
theorem Xw(cost tree:Int)(skip:Bool)(b:Int):∀(n:Nat) (a:Int) (T:Tp) (l:List Lk),jh (SN cost tree skip b n a T l).2=jh T
 | 0,_,_,_=>rfl
 | n+1,a,T,l=>by rw[SN,Xw cost tree skip b n,agd]
theorem Xx(cost:Int):∀(n:Nat) (b:Int) (T:Tp) (l:List Lk),jh (abQ cost n b T l).2=jh T
 | 0,_,_,_=>rfl
 | n+1,b,T,l=>by rw[abQ,Xx cost n];simp only[agc];rw[Xw];simp
@[simp]theorem aqQ(T:Tp)(most:Int):jh (als T most).2=jh T:=by simp only[als];rw[Xx];simp
@[simp]theorem an5(T:Tp):jh (xB T).2=jh T:=by simp[xB]
@[simp]theorem aqP(T:Tp):jh (Xu T).2=jh T:=by simp[Xu]
@[simp]theorem alp(T:Tp)(n:Int):jh (abO T n).2=jh T:=by
 unfold abO;split
 ·split
  ·unfold abP;simp only
   repeat' split
   all_goals simp
  ·simp
 ·simp
theorem CU(n lo hi:Int):Contract Tryz.prog 134 [.d (.int .i64 n),.d (.int .i64 lo),.d (.int .i64 hi)] [] (.d (.bool (inB n lo hi))) [] []:=by
 refine ay Tryz.func134 rfl (fun E0=>?_);refine iC.sound (g:=.mk) (ow:=[]) (kp:=(kb 0x47)) ?_;rw[Tryz.ntmps134];by_cases h:lo≤n
 ·simp -dsimp[h];refine Fin.of ?_;simp[inB,h]
 ·simp -dsimp[h];refine Fin.of ?_;simp[inB,h]
def Y2(set bit len:Int):Bool:=eP len&&(inB bit 0 (len-1)&&(inB set 0 31&&decide (set*len+bit+1≤256)))
def atT(set bit len:Int):TV:=.qh [.d (.int .i64 (if Y2 set bit len then set*len+bit+1 else 0)),.d (.bool (Y2 set bit len))]
def Rh(l:List Int)(n:Int):Bool:=decide (n∈l)
def Z_(v:Int)(l:List Int):Int:=match l.findIdx? (fun x=>decide (x=v))with|some i=>i|none=>-1
theorem ajk{v:Int}{l:List Int}{i:Nat}(hx:l[i]? = some v)(h:∀a,a<i→∀y,l[a]? = some y→y≠v):Z_ v l=i:=by
 unfold Z_;obtain⟨hi,hv⟩:=aB.1 hx;have:l.findIdx? (fun x=>decide (x=v))=some i:=by rw[iV];exact⟨hi,by simp[hv],fun j hj=>by have:=h j hj _ (aj (by omega));simpa using this⟩
 rw[this]
theorem ajl{v:Int}{l:List Int}(h:∀a,a<l.length→∀y,l[a]? = some y→y≠v):Z_ v l = -1:=by
 unfold Z_;have:l.findIdx? (fun x=>decide (x=v))=none:=by rw[kG];intro x hx;obtain⟨i,hi⟩:=bU hx;simpa using h i (aB.1 hi).1 x hi
 rw[this]
theorem agC(v:Int)(l:List Int):decide (0≤Z_ v l)=Rh l v:=by
 unfold Z_ Rh;cases h:l.findIdx? (fun x=>decide (x=v))with
 | none=>have:=kG.1 h;simp;intro hm;simpa using this v hm
 | some i=>obtain⟨hi,h1,_⟩:=iV.1 h;simp at h1;simp;rw[←h1];exact aJ hi
theorem agF(l:List Int)(hl:l.length≤9223372036854775807)(v:Int):Contract Tryz.prog 162 [.d (ints l),.d (.int .i64 v)] [] (.d (.int .i64 (Z_ v l))) [] []:=by
 refine ay Tryz.func162 rfl (fun E0=>?_);refine iC.sound (g:=.mk) (ow:=[]) (kp:=(kb 0x103b3)) ?_;rw[Tryz.ntmps162];simp -dsimp[ints]
 refine dD.of [] (kb 0x103b3) (ι:={i:Nat // i≤l.length∧∀a,a<i→∀x,l[a]? = some x→x≠v}) (fun z=>[(.s 0,It.v (.d (ints l))),(.s 1,It.v (.d (.int .i64 v))),(.s 4,It.v (.d (.int .i64 0))),(.s 7,It.v (.d (.int .i64 l.length))),(.s 8,It.v (.d (.int .i64 z.1)))]) (fun z=>l.length-z.1) ⟨0,by omega,fun a h=>by omega⟩ ?_ ?_
 ·exact GS.to (by simp[ints])
 ·rintro⟨i,i1,i2⟩;by_cases hi:i<l.length
  ·by_cases h:l[i]=v
   ·have h':v=l[i]:=h.symm;simp -dsimp[ints,hi,h,wrap_i64 (n:=(i:Int)+1) (by omega) (by omega)];try refine⟨?_,⟨by kernel_rfl⟩⟩
    refine Fin.of ?_;simp[ajk (v:=v) (l:=l) (i:=i) (by rw[aj hi,h]) i2]
   ·have h' :¬v=l[i]:=fun e=>h e.symm
    simp -dsimp[ints,hi,h,h',wrap_i64 (n:=(i:Int)+1) (by omega) (by omega)];try refine⟨?_,⟨by kernel_rfl⟩⟩
    exact⟨⟨i+1,by omega,fun a ha x hx=>by
     by_cases e:a=i
     ·subst e;rw[aj hi]at hx;simp only[ah]at hx;rw[←hx];exact h
     ·exact i2 a (by omega) x hx⟩,GS.to (by simp[ints]),by simp;omega⟩
  ·simp -dsimp[ints,hi];refine Fin.of ?_;simp[ajl (v:=v) (l:=l) fun a ha=>i2 a (by omega)]
theorem WV(l:List Int)(hl:l.length≤9223372036854775807)(v:Int):Contract Tryz.prog 140 [.d (ints l),.d (.int .i64 v)] [] (.d (.bool (Rh l v))) [] []:=by refine ay Tryz.func140 rfl (fun E0=>?_);refine iC.sound (g:=.mk) (ow:=[]) (kp:=(kb 0x13)) ?_;rw[Tryz.ntmps140];simp -dsimp;refine aI.of (agF l hl v) [] 0 ?_;simp -dsimp;refine Fin.of ?_;simp[agC]
set_option maxHeartbeats 4000000
structure Rw where
 id:Int
 nx:List Int
structure Tb where
 r:Int
 sd:Int
 len:Int
 rows:List Rw
def Rw.cs(x:Rw):List D:=[.int .i64 x.id,ints x.nx]
def IW(x:Rw):TV:=.agg [.d (.int .i64 x.id),.d (ints x.nx)]
def jM(l:List Rw):D:=.sl (l.map Rw.cs)
def mD(b:Tb):TV:=.agg [.d (.int .i64 b.r),.d (.int .i64 b.sd),.d (.int .i64 b.len),.d (jM b.rows)]
def EU(n lo hi:Int):Prop:=lo≤n∧n≤hi
instance (n lo hi:Int):Decidable (EU n lo hi):=inferInstanceAs (Decidable (_∧_))
theorem fH{n lo hi:Int}(h:EU n lo hi):inB n lo hi=true:=by simp[inB,h.1,h.2]
theorem uF{n lo hi:Int}(h :¬EU n lo hi):inB n lo hi=false:=by simp only[EU]at h;simp[inB];omega
def Rw.out(x:Rw):Prop:=¬EU x.id 1 256∨∃n∈x.nx,¬EU n 1 99
instance (x:Rw):Decidable x.out:=inferInstanceAs (Decidable (_∨_))
def Tb.head(b:Tb):Prop:=EU b.r 1 99∧EU b.sd 0 7∧(eP b.len=true∨b.len=0∧b.rows.length=0)
instance (b:Tb):Decidable b.head:=inferInstanceAs (Decidable (_∧_))
def Tb.BP(b:Tb):Prop:=(b.rows.map (·.id)).Pairwise (· < ·)∧∀x∈b.rows,x.nx.Pairwise (· < ·)
instance (b:Tb):Decidable b.BP:=inferInstanceAs (Decidable (_∧_))
def chk(b:Tb):Int:=
 if ¬b.head then 2 else if ∃x∈b.rows,x.out then 2 else if 256<b.rows.length then 3 else if ∃x∈b.rows,24<x.nx.length then 3 else if ¬b.BP then 25 else if ∃x∈b.rows,1<x.nx.length∧b.r∈x.nx then 8 else 0
section
variable {b:Tb}
theorem tN(h :¬b.head):chk b=2:=by simp[chk,h]
theorem UL(h:b.head)(g:∃x∈b.rows,x.out):chk b=2:=by unfold chk;rw[if_neg (not_not_intro h),if_pos g]
theorem abx(h:b.head)(g :¬∃x∈b.rows,x.out)(i:256<b.rows.length):chk b=3:=by unfold chk;rw[if_neg (not_not_intro h),if_neg g,if_pos i]
theorem abz(h:b.head)(g :¬∃x∈b.rows,x.out)(i :¬256<b.rows.length)(j:∃x∈b.rows,24<x.nx.length):chk b=3:=by unfold chk;rw[if_neg (not_not_intro h),if_neg g,if_neg i,if_pos j]
theorem DW(h:b.head)(g :¬∃x∈b.rows,x.out)(i :¬256<b.rows.length)(j :¬∃x∈b.rows,24<x.nx.length)(k :¬b.BP):chk b=25:=by unfold chk;rw[if_neg (not_not_intro h),if_neg g,if_neg i,if_neg j,if_pos k]
theorem WR(h:b.head)(g :¬∃x∈b.rows,x.out)(i :¬256<b.rows.length)(j :¬∃x∈b.rows,24<x.nx.length)(k:b.BP)(l:∃x∈b.rows,1<x.nx.length∧b.r∈x.nx):chk b=8:=by unfold chk;rw[if_neg (not_not_intro h),if_neg g,if_neg i,if_neg j,if_neg (not_not_intro k),if_pos l]
theorem Zx(h:b.head)(g :¬∃x∈b.rows,x.out)(i :¬256<b.rows.length)(j :¬∃x∈b.rows,24<x.nx.length)(k:b.BP)(l :¬∃x∈b.rows,1<x.nx.length∧b.r∈x.nx):chk b=0:=by unfold chk;rw[if_neg (not_not_intro h),if_neg g,if_neg i,if_neg j,if_neg (not_not_intro k),if_neg l]
theorem pW(j:Nat):((j:Int)+1).toNat=j+1:=by omega
theorem NC:∀{l:List Int},(∀a x y,l[a]? = some x→l[a+1]? = some y→x<y)→l.Pairwise (· < ·)
 | [],_=>.nil
 | [x],_=>by simp
 | x::y::r,h=>by
   have ih:=NC (l:=y::r) fun a u v hu hv=>h (a+1) u v (by simpa using hu) (by simpa using hv)
   refine dM.2 ⟨fun z hz=>?_,ih⟩;have h0:=h 0 x y rfl rfl;rcases aF.1 hz with e|hz
   ·omega
   ·have:=(dM.1 ih).1 z hz;omega
theorem Zg(h:∀a x y,b.rows[a]? = some x→b.rows[a+1]? = some y→x.id<y.id)(g:∀x∈b.rows,x.nx.Pairwise (· < ·)):b.BP:=by refine⟨NC fun a x y hx hy=>?_,g⟩;simp only[bn,dO]at hx hy;obtain⟨x',hx',rfl⟩:=hx;obtain⟨y',hy',rfl⟩:=hy;exact h a x' y' hx' hy'
theorem abX(h:b.BP){i:Nat}{x y:Rw}(hy:b.rows[i-1]? = some y)(hx:b.rows[i]? = some x)(h0:0<i)(hle:x.id≤y.id):False:=by obtain⟨h1,h2⟩:=aB.1 hx;obtain⟨h3,h4⟩:=aB.1 hy;have:=bC.1 h.1 (i-1) i (by simpa using h3) (by simpa using h1) (by omega);simp only[jv,h2,h4]at this;omega
end
end Go.Proofs
